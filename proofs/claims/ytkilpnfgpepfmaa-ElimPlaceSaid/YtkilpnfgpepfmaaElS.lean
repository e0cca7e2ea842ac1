/- elim: a step of a visit that has its slot. -/
import Derived.Test.YtkilpnfgpepfmaaElB
set_option linter.unusedSimpArgs false
set_option linter.unusedVariables false
set_option linter.unusedSectionVars false
open Go Go.RowKit Hat
namespace Go.Proofs.Ytkilpnfgpepfmaa
set_option maxHeartbeats 4000000
set_option maxRecDepth 100000

theorem elhas_arm {t p tm pr tr : Nat} {r : Src} {w0 w w6 : World} {ow0 ow ow6 : Nat → Nat} {T T' : TypeId} {cs cs' : Array Value}
    (hp : Blk w p T cs) (hr : Blk w pr T' cs') (hs : IsSrc tr pr r w ow) (hop : ow p = t) (hor : ow pr = tr) (hd : t + 1 < tm ∧ tm + 2 < tr) (hl : p < w.heap.size)
    (hF : Fr [t, t + 1, tm, tm + 1, tm + 2, tr, tr + 1] w0 w ow0 ow) (hf6 : Fr [t + 1, tm, tm + 1, tm + 2] w.drew w6 ow ow6) :
    Blk w6 p T cs ∧ Blk w6 pr T' cs' ∧ IsSrc tr pr r w6 ow6 ∧ ow6 p = t ∧ Fr [t, t + 1, tm, tm + 1, tm + 2, tr, tr + 1] w0 w6 ow0 ow6 := by
  have hf : Fr [t + 1, tm, tm + 1, tm + 2] w w6 ow ow6 := Fr.trans ((Fr.refl _ w ow).drew) hf6 (by simp)
  refine ⟨hf.blk hp (by rw [hop]; simp; omega), hf.blk hr (by rw [hor]; simp; omega), Locl.keep IsSrc.loc hs hf ?_, by rw [hf.old p hl]; exact hop, hF.trans hf (by simp)⟩
  simp
  omega
theorem blk_set_below {w6 w7 : World} {p i : Nat} {T : TypeId} {cs cs' : Array Value} {u : Value} (hb : Blk w6 p T cs)
    (h : Below ((w6.setCell ⟨p, i, none⟩ u).drew).heap.size ((w6.setCell ⟨p, i, none⟩ u).drew) w7) (e : cs.setIfInBounds i u = cs') : Blk w7 p T cs' := by
  have h1 : Blk ((w6.setCell ⟨p, i, none⟩ u).drew) p T cs' := (hb.set' i u cs' e).drew
  exact h1.below h h1.lt
theorem elhas_keep (t p q tm pm tr pr : Nat) (x : El) (e : Ex) (m : Mem) (r : Src) (fn : Value) (pl : Int) (w : World) (ow : Nat → Nat) (hop : ow p = t)
    (hb : Blk w p 115 #[.pointer (some ⟨q, 0, none⟩), .int .i64 x.c.nodes, .int .i64 x.c.slots, .int .i64 x.c.holders, .int .u32 x.c.tag, .int .i64 x.s.range, .int .i64 x.s.exp, fn, .int .i64 pl, .int .i64 x.ended]) (hE : IsEx (t + 1) q e w ow) (hm : IsMem tm pm m w ow) (hs : IsSrc tr pr r w ow) (hd : t + 1 < tm ∧ tm + 2 < tr)
    (hn : m.ns.length < 1000000000) (hlk : -8000000000000000000 ≤ e.looks) (h2 : (x.ended == 2) = false) (hk : (x.ended == 0) = false ∨ ((x.ended == 0) = true ∧ ((e.step m r.now).1.1 != 0) = false)) :
    Calls Try.prog 17 #[.pointer (some ⟨p, 0, none⟩), .pointer (some ⟨pm, 0, none⟩), .pointer (some ⟨pr, 0, none⟩)] w
      (Post [t, t + 1, tm, tm + 1, tm + 2, tr, tr + 1] w ow (.tuple #[.int .i64 (e.step m r.now).1.1, .int .u32 (e.step m r.now).1.2]) (fun w' ow' => ow' p = t ∧ Blk w' p 115 #[.pointer (some ⟨q, 0, none⟩), .int .i64 x.c.nodes, .int .i64 x.c.slots, .int .i64 x.c.holders, .int .u32 x.c.tag, .int .i64 x.s.range, .int .i64 x.s.exp, fn, .int .i64 pl, .int .i64 x.ended] ∧
        IsEx (t + 1) q (e.step m r.now).2.1 w' ow' ∧ IsMem tm pm (e.step m r.now).2.2 w' ow' ∧ IsSrc tr pr r w' ow')) := by
  have HX := hid (ex_step (t + 1) q tm pm e m r.now w.drew ow (Locl.keep IsExS.loc hE (us := []) ((Fr.refl _ _ _).drew) (by simp)) (Locl.keep IsMem.loc hm (us := []) ((Fr.refl _ _ _).drew) (by simp)) (by omega) hn hlk)
  generalize e.step m r.now = s0 at *
  obtain ⟨⟨st, si⟩, e1, m1⟩ := s0
  dsimp only at *
  rcases hk with hk | ⟨hk, hk2⟩
  · obtain ⟨horW, _, _, sa, sn, sc, bsr, _⟩ := id hs
    have hopW := hop
    obtain ⟨hcp, hfp, hplW⟩ := hb.all
    have hcr := bsr.cell
    have HPW := hid hb
    have HRW := hid bsr
    have HSW := hid hs
    have HFW := hid (Fr.refl [t, t + 1, tm, tm + 1, tm + 2, tr, tr + 1] w ow)
    have Hd := hid hd
    clear hb bsr hs hd hE hm hlk hn
    go_enter Try.func17, Try.ntmps17
    go_wp2

    go_region_held3 (fun w' => (∀ i, w'.cell? ⟨p, i, none⟩ = (#[.pointer (some ⟨q, 0, none⟩), .int .i64 x.c.nodes, .int .i64 x.c.slots, .int .i64 x.c.holders, .int .u32 x.c.tag, .int .i64 x.s.range, .int .i64 x.s.exp, fn, .int .i64 pl, .int .i64 x.ended] : Array Value)[i]?) ∧ (∀ i, w'.cell? ⟨pr, i, none⟩ = (#[.int .u64 r.now, .slice sa sn sc] : Array Value)[i]?))
      (first
        | exact ⟨hcp, hcr⟩
        | exact ⟨j1, j2⟩
        | go_keep)
      ((first
        | (go_at_call 51
           refine (now_cell pr r.now _ (by first | exact hcr 0 | exact j2 0)).mono ?_
           rintro e6 w6 ⟨rfl, rfl⟩)
        | (go_at_call 55
           refine HX.out.mono ?_
           rintro e6 w6 ⟨rfl, ow6, hf6, hE6, hm6⟩
           have hd := Hd.out
           have Z6 := elhas_arm HPW.out HRW.out HSW.out hopW horW Hd.out hplW HFW.out hf6
           have P6 := Z6.1
           have R6 := Z6.2.1
           have S6 := Z6.2.2.1
           have j1 := P6.cell
           have j2 := R6.cell
           have j3 := P6.frozen
           have l6 := P6.lt
           have hop6 := Z6.2.2.2.1
           have HP6 := hid P6
           have HS6 := hid S6
           have HE6 := hid hE6
           have HM6 := hid hm6
           have HF6 := hid Z6.2.2.2.2
           clear Z6 P6 R6 S6 hE6 hm6 hf6)))
    go_wp2
    go_ret2
    exact Post.mk rfl ow6 HF6.out ⟨hop6, HP6.out, HE6.out, HM6.out, HS6.out⟩
  · obtain ⟨horW, _, _, sa, sn, sc, bsr, _⟩ := id hs
    have hopW := hop
    obtain ⟨hcp, hfp, hplW⟩ := hb.all
    have hcr := bsr.cell
    have HPW := hid hb
    have HRW := hid bsr
    have HSW := hid hs
    have HFW := hid (Fr.refl [t, t + 1, tm, tm + 1, tm + 2, tr, tr + 1] w ow)
    have Hd := hid hd
    clear hb bsr hs hd hE hm hlk hn
    go_enter Try.func17, Try.ntmps17
    go_wp2

    go_region_held3 (fun w' => (∀ i, w'.cell? ⟨p, i, none⟩ = (#[.pointer (some ⟨q, 0, none⟩), .int .i64 x.c.nodes, .int .i64 x.c.slots, .int .i64 x.c.holders, .int .u32 x.c.tag, .int .i64 x.s.range, .int .i64 x.s.exp, fn, .int .i64 pl, .int .i64 x.ended] : Array Value)[i]?) ∧ (∀ i, w'.cell? ⟨pr, i, none⟩ = (#[.int .u64 r.now, .slice sa sn sc] : Array Value)[i]?))
      (first
        | exact ⟨hcp, hcr⟩
        | exact ⟨j1, j2⟩
        | go_keep)
      ((first
        | (go_at_call 51
           refine (now_cell pr r.now _ (by first | exact hcr 0 | exact j2 0)).mono ?_
           rintro e6 w6 ⟨rfl, rfl⟩)
        | (go_at_call 55
           refine HX.out.mono ?_
           rintro e6 w6 ⟨rfl, ow6, hf6, hE6, hm6⟩
           have hd := Hd.out
           have Z6 := elhas_arm HPW.out HRW.out HSW.out hopW horW Hd.out hplW HFW.out hf6
           have P6 := Z6.1
           have R6 := Z6.2.1
           have S6 := Z6.2.2.1
           have j1 := P6.cell
           have j2 := R6.cell
           have j3 := P6.frozen
           have l6 := P6.lt
           have hop6 := Z6.2.2.2.1
           have HP6 := hid P6
           have HS6 := hid S6
           have HE6 := hid hE6
           have HM6 := hid hm6
           have HF6 := hid Z6.2.2.2.2
           clear Z6 P6 R6 S6 hE6 hm6 hf6)))
    go_wp2
    go_ret2
    exact Post.mk rfl ow6 HF6.out ⟨hop6, HP6.out, HE6.out, HM6.out, HS6.out⟩

theorem elhas_upd (t p q tm pm tr pr : Nat) (x : El) (e : Ex) (m : Mem) (r : Src) (fn : Value) (pl : Int) (w : World) (ow : Nat → Nat) (hop : ow p = t)
    (hb : Blk w p 115 #[.pointer (some ⟨q, 0, none⟩), .int .i64 x.c.nodes, .int .i64 x.c.slots, .int .i64 x.c.holders, .int .u32 x.c.tag, .int .i64 x.s.range, .int .i64 x.s.exp, fn, .int .i64 pl, .int .i64 x.ended]) (hE : IsEx (t + 1) q e w ow) (hm : IsMem tm pm m w ow) (hs : IsSrc tr pr r w ow) (hd : t + 1 < tm ∧ tm + 2 < tr)
    (hn : m.ns.length < 1000000000) (hlk : -8000000000000000000 ≤ e.looks) (h2 : (x.ended == 2) = false) (hk : (x.ended == 0) = true) (hk2 : ((e.step m r.now).1.1 != 0) = true) (hrt : x.s.right x.c.slots = true) :
    Calls Try.prog 17 #[.pointer (some ⟨p, 0, none⟩), .pointer (some ⟨pm, 0, none⟩), .pointer (some ⟨pr, 0, none⟩)] w
      (Post [t, t + 1, tm, tm + 1, tm + 2, tr, tr + 1] w ow (.tuple #[.int .i64 (e.step m r.now).1.1, .int .u32 (e.step m r.now).1.2]) (fun w' ow' => ow' p = t ∧ Blk w' p 115 #[.pointer (some ⟨q, 0, none⟩), .int .i64 x.c.nodes, .int .i64 x.c.slots, .int .i64 x.c.holders, .int .u32 x.c.tag, .int .i64 (x.s.after x.c.slots (e.step m r.now).1.1).range, .int .i64 (x.s.after x.c.slots (e.step m r.now).1.1).exp, fn, .int .i64 pl, .int .i64 (e.step m r.now).1.1] ∧
        IsEx (t + 1) q (e.step m r.now).2.1 w' ow' ∧ IsMem tm pm (e.step m r.now).2.2 w' ow' ∧ IsSrc tr pr r w' ow')) := by
  have HX := hid (ex_step (t + 1) q tm pm e m r.now w.drew ow (Locl.keep IsExS.loc hE (us := []) ((Fr.refl _ _ _).drew) (by simp)) (Locl.keep IsMem.loc hm (us := []) ((Fr.refl _ _ _).drew) (by simp)) (by omega) hn hlk)
  generalize e.step m r.now = s0 at *
  obtain ⟨⟨st, si⟩, e1, m1⟩ := s0
  dsimp only at *
  have Hrt := hid hrt
  clear hrt
  obtain ⟨horW, _, _, sa, sn, sc, bsr, _⟩ := id hs
  have hopW := hop
  obtain ⟨hcp, hfp, hplW⟩ := hb.all
  have hcr := bsr.cell
  have HPW := hid hb
  have HRW := hid bsr
  have HSW := hid hs
  have HFW := hid (Fr.refl [t, t + 1, tm, tm + 1, tm + 2, tr, tr + 1] w ow)
  have Hd := hid hd
  clear hb bsr hs hd hE hm hlk hn
  go_enter Try.func17, Try.ntmps17
  go_wp2
  go_region_held3 (fun w' => (∀ i, w'.cell? ⟨p, i, none⟩ = (#[.pointer (some ⟨q, 0, none⟩), .int .i64 x.c.nodes, .int .i64 x.c.slots, .int .i64 x.c.holders, .int .u32 x.c.tag, .int .i64 x.s.range, .int .i64 x.s.exp, fn, .int .i64 pl, .int .i64 x.ended] : Array Value)[i]?) ∧ (∀ i, w'.cell? ⟨pr, i, none⟩ = (#[.int .u64 r.now, .slice sa sn sc] : Array Value)[i]?))
    (first
      | exact ⟨hcp, hcr⟩
      | exact ⟨j1, j2⟩
      | go_keep)
    ((first
      | (go_at_call 51
         refine (now_cell pr r.now _ (by first | exact hcr 0 | exact j2 0)).mono ?_
         rintro e6 w6 ⟨rfl, rfl⟩)
      | (go_at_call 55
         refine HX.out.mono ?_
         rintro e6 w6 ⟨rfl, ow6, hf6, hE6, hm6⟩
         have hd := Hd.out
         have Z6 := elhas_arm HPW.out HRW.out HSW.out hopW horW Hd.out hplW HFW.out hf6
         have P6 := Z6.1
         have R6 := Z6.2.1
         have S6 := Z6.2.2.1
         have j1 := P6.cell
         have j2 := R6.cell
         have j3 := P6.frozen
         have l6 := P6.lt
         have hop6 := Z6.2.2.2.1
         have HP6 := hid P6
         have HS6 := hid S6
         have HE6 := hid hE6
         have HM6 := hid hm6
         have HF6 := hid Z6.2.2.2.2
         clear Z6 P6 R6 S6 hE6 hm6 hf6)))
  go_wp2
  go_region_with (go_at_call 56
                  refine (after_calls x.s x.c.slots st _ Hrt.out).mono ?_
                  rintro e7 w7 ⟨rfl, hb7⟩
                  have P7 : Blk w7 p 115 #[.pointer (some ⟨q, 0, none⟩), .int .i64 x.c.nodes, .int .i64 x.c.slots, .int .i64 x.c.holders, .int .u32 x.c.tag, .int .i64 x.s.range, .int .i64 x.s.exp, fn, .int .i64 pl, .int .i64 st] := blk_set_below HP6.out hb7 rfl
                  have k1 := P7.cell
                  have k2 := P7.frozen
                  have HP7 := hid P7
                  have HB7 := hid hb7
                  clear P7 hb7)
  all_goals
    go_wp2
    go_ret2
    have hd := Hd.out
    have hF7 : Fr [t] w6 w7 ow6 ow6 := by
      refine Fr.trans ?_ (Fr.of_below HB7.out [] ow6) (by simp)
      repeat' (first | (with_reducible exact Fr.refl _ _ _) | (with_reducible refine Fr.drew ?_) | (with_reducible refine Fr.setCell ?_ ?_ _) | (simp [hop6]; done))
    have hF8 : ∀ u v, Fr [t] w6 ((w7.setCell ⟨p, 5, none⟩ u).setCell ⟨p, 6, none⟩ v) ow6 ow6 := fun u v => (hF7.setCell (by simp [hop6]) u).setCell (by simp [hop6]) v
    exact Post.mk rfl ow6 (HF6.out.trans (hF8 _ _) (by simp)) ⟨hop6, (HP7.out.set' 5 _ _ rfl).set' 6 _ _ rfl, Locl.keep IsExS.loc HE6.out (hF8 _ _) (by simp), Locl.keep IsMem.loc HM6.out (hF8 _ _) (by simp; omega), Locl.keep IsSrc.loc HS6.out (hF8 _ _) (by simp; omega)⟩
end Go.Proofs.Ytkilpnfgpepfmaa
