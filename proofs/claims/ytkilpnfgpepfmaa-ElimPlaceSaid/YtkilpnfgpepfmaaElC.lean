/- elim: a step, whole. -/
import Derived.Test.YtkilpnfgpepfmaaElG
set_option linter.unusedSimpArgs false
set_option linter.unusedVariables false
set_option linter.unusedSectionVars false
open Go Go.RowKit Hat
namespace Go.Proofs.Ytkilpnfgpepfmaa
set_option maxHeartbeats 2000000
set_option maxRecDepth 100000

theorem after_range (s : Pol) (n st : Int) (h : s.right n = true) : (s.after n st).range < 9223372036854775808 := by
  simp only [Pol.right, decide_eq_true_eq] at h
  have : s.range ≤ 16 := by
    obtain ⟨h1, h2, h3, h4, h5⟩ := h
    split at h5 <;> omega
  unfold Pol.after
  split
  · dsimp only; omega
  · split
    · dsimp only; omega
    · split
      · dsimp only; split <;> omega
      · omega

theorem el_step (t p tm pm tr pr : Nat) (x : El) (m : Mem) (r : Src) (w : World) (ow : Nat → Nat) (h : IsEl t p x w ow) (hm : IsMem tm pm m w ow) (hs : IsSrc tr pr r w ow)
    (hd : t + 1 < tm ∧ tm + 2 < tr) (hn : m.ns.length < 1000000000) (hlk : ∀ v, x.v = some v → -8000000000000000000 ≤ v.looks) :
    Calls Try.prog 17 #[.pointer (some ⟨p, 0, none⟩), .pointer (some ⟨pm, 0, none⟩), .pointer (some ⟨pr, 0, none⟩)] w
      (Post [t, t + 1, tm, tm + 1, tm + 2, tr, tr + 1] w ow (.tuple #[.int .i64 (x.step m r).1.1, .int .u32 (x.step m r).1.2]) (fun w' ow' =>
        IsEl t p (x.step m r).2.1 w' ow' ∧ IsMem tm pm (x.step m r).2.2.1 w' ow' ∧ IsSrc tr pr (x.step m r).2.2.2 w' ow')) := by
  have hh := h
  obtain ⟨hop, hwf, vp, fn, hb, hc⟩ := h
  by_cases h2 : x.ended = 2
  · have e : x.step m r = ((2, 0), x, m, r) := by simp [El.step, h2]
    rw [e]
    refine (elstep_ended p pm pr x vp fn w hb (by simp [h2])).mono ?_
    rintro en w' ⟨rfl, rfl⟩
    exact Post.mk rfl ow (Fr.refl _ _ _) ⟨hh, hm, hs⟩
  have h2' : (x.ended == 2) = false := by simp [h2]
  rcases hc with ⟨hv, hvp, hpl, hne⟩ | ⟨e, q, hv, hvp, hr, hE⟩
  · have h0 : x.ended = 0 ∧ ∃ b0 b1 bv b3 b4 b5 b6, fn = (.func (.func 47) #[] #[.pointer (some ⟨b0, 0, none⟩), .pointer (some ⟨b1, 0, none⟩), .pointer (some ⟨bv, 0, none⟩), .pointer (some ⟨b3, 0, none⟩), .pointer (some ⟨b4, 0, none⟩), .pointer (some ⟨b5, 0, none⟩), .pointer (some ⟨b6, 0, none⟩)]) ∧ ElBox t p x b0 b1 bv b3 b4 b5 b6 w ow := hne.resolve_left h2
    obtain ⟨h0, b0, b1, bv, b3, b4, b5, b6, hfn, hbx⟩ := h0
    subst hvp
    have hbad : x.step m r = ((2, 0), { x with ended := 2 }, m, r) →
        ∀ (en : Ending) (w' : World), Post [t] w ow (.tuple #[.int .i64 2, .int .u32 0]) (fun w' ow' => ow' = ow ∧ Blk w' p 115 #[.pointer none, .int .i64 x.c.nodes, .int .i64 x.c.slots, .int .i64 x.c.holders, .int .u32 x.c.tag, .int .i64 x.s.range, .int .i64 x.s.exp, fn, .int .i64 x.place, .int .i64 2]) en w' →
        Post [t, t + 1, tm, tm + 1, tm + 2, tr, tr + 1] w ow (.tuple #[.int .i64 (x.step m r).1.1, .int .u32 (x.step m r).1.2]) (fun w' ow' =>
          IsEl t p (x.step m r).2.1 w' ow' ∧ IsMem tm pm (x.step m r).2.2.1 w' ow' ∧ IsSrc tr pr (x.step m r).2.2.2 w' ow') en w' := by
      intro e
      rw [e]
      rintro en w' ⟨rfl, ow', hf, rfl, hb'⟩
      refine Post.mk rfl ow' (hf.mono (by simp)) ⟨⟨hop, ⟨hwf.t0, hwf.t1, hwf.r1, hwf.i0, hwf.i1, hwf.b1, hwf.w0, hwf.w1⟩, .pointer none, fn, hb', .inl ⟨hv, rfl, hpl, .inl rfl⟩⟩, Locl.keep IsMem.loc hm hf ?_, Locl.keep IsSrc.loc hs hf ?_⟩ <;> simp <;> omega
    cases hok : x.c.ok with
    | false => exact (elstep_bad1 t p pm pr x fn w ow hop hb h2' (chk_bad hok)).mono (hbad (by simp [El.step, h2, hv, hok]))
    | true =>
      by_cases hs0 : x.c.slots = 0
      · exact (elstep_bad2 t p pm pr x fn w ow hop hb h2' (chk_ok hok) (by simp [hs0])).mono (hbad (by simp [El.step, h2, hv, hs0]))
      · cases hrt : x.s.right x.c.slots with
        | false => exact (elstep_bad3 t p pm pr x fn w ow hop hb h2' (chk_ok hok) (by simp [hs0]) hrt).mono (hbad (by simp [El.step, h2, hv, hrt]))
        | true =>
          obtain ⟨d, r2, hdr⟩ : ∃ d r2, r.draw x.s.range = (d, r2) := ⟨_, _, rfl⟩
          obtain ⟨st, si, e1, m1, hse⟩ : ∃ st si e1 m1, (Ex.new (x.c.slot d) x.push x.i (deadline r.now x.wait) (x.s.polls x.base)).step m r2.now = ((st, si), e1, m1) := ⟨_, _, _, _, rfl⟩
          have hrn : r2.now = r.now := by have := draw_now r x.s.range; rw [hdr] at this; exact this
          have hse' := hse
          have hk : (x.ended == 0) = true := by simp [h0]
          cases hst : (st != 0) with
          | false =>
            have hst0 : st = 0 := by simpa using hst
            have e : x.step m r = ((st, si), { x with place := x.c.slot d, v := some e1 }, m1, r2) := by
              simp [El.step, h2, hv, hok, hs0, hrt, El.begun, hdr, El.does, hrn, hst0]
              rw [hrn] at hse
              simp [hse, hst0, h0]
            rw [e]
            refine (elgood_keep t p tm pm tr pr b0 b1 bv b3 b4 b5 b6 x m r r2 d fn w ow hop hwf hdr hfn hb hbx hm hs hd hn h2' hk (chk_ok hok) (by simp [hs0]) hrt _ rfl st si e1 m1 hse' hst).mono ?_
            rintro en w' ⟨q, rfl, ow', hf, ho', hb', hE', hm', hs'⟩
            exact Post.mk rfl ow' hf ⟨⟨ho', ⟨hwf.t0, hwf.t1, hwf.r1, hwf.i0, hwf.i1, hwf.b1, hwf.w0, hwf.w1⟩, _, fn, hb', .inr ⟨e1, q, rfl, rfl, fun _ => hrt, hE'⟩⟩, hm', hs'⟩
          | true =>
            have hst0 : st ≠ 0 := by simpa using hst
            have e : x.step m r = ((st, si), { x with place := x.c.slot d, v := some e1, ended := st, s := x.s.after x.c.slots st }, m1, r2) := by
              simp [El.step, h2, hv, hok, hs0, hrt, El.begun, hdr, El.does, hrn]
              rw [hrn] at hse
              simp [hse, hst0, h0]
            rw [e]
            refine (elgood_upd t p tm pm tr pr b0 b1 bv b3 b4 b5 b6 x m r r2 d fn w ow hop hwf hdr hfn hb hbx hm hs hd hn h2' hk (chk_ok hok) (by simp [hs0]) hrt _ rfl st si e1 m1 hse' hst).mono ?_
            rintro en w' ⟨q, rfl, ow', hf, ho', hb', hE', hm', hs'⟩
            exact Post.mk rfl ow' hf ⟨⟨ho', ⟨hwf.t0, hwf.t1, after_range _ _ _ hrt, hwf.i0, hwf.i1, hwf.b1, hwf.w0, hwf.w1⟩, _, fn, hb', .inr ⟨e1, q, rfl, rfl, fun h => absurd h hst0, hE'⟩⟩, hm', hs'⟩
  · subst hvp
    have es : x.step m r = x.does e m r := by simp [El.step, h2, hv]
    rw [es]
    by_cases hu : x.ended = 0 ∧ (e.step m r.now).1.1 ≠ 0
    · have ed : x.does e m r = ((e.step m r.now).1, { x with v := some (e.step m r.now).2.1, ended := (e.step m r.now).1.1, s := x.s.after x.c.slots (e.step m r.now).1.1 }, (e.step m r.now).2.2, r) := by simp [El.does, hu]
      rw [ed]
      refine (elhas_upd t p q tm pm tr pr x e m r fn x.place w ow hop hb hE hm hs hd hn (hlk e hv) h2' (by simp [hu.1]) (by simpa using hu.2) (hr hu.1)).mono ?_
      rintro en w' ⟨rfl, ow', hf, ho', hb', hE', hm', hs'⟩
      exact Post.mk rfl ow' hf ⟨⟨ho', ⟨hwf.t0, hwf.t1, after_range _ _ _ (hr hu.1), hwf.i0, hwf.i1, hwf.b1, hwf.w0, hwf.w1⟩, _, fn, hb', .inr ⟨_, q, rfl, rfl, fun h => absurd h hu.2, hE'⟩⟩, hm', hs'⟩
    · have ed : x.does e m r = ((e.step m r.now).1, { x with v := some (e.step m r.now).2.1 }, (e.step m r.now).2.2, r) := by simp [El.does, hu]
      rw [ed]
      have hkk : (x.ended == 0) = false ∨ ((x.ended == 0) = true ∧ ((e.step m r.now).1.1 != 0) = false) := by
        by_cases h0 : x.ended = 0
        · exact .inr ⟨by simp [h0], by simpa using fun h => hu ⟨h0, h⟩⟩
        · exact .inl (by simp [h0])
      refine (elhas_keep t p q tm pm tr pr x e m r fn x.place w ow hop hb hE hm hs hd hn (hlk e hv) h2' hkk).mono ?_
      rintro en w' ⟨rfl, ow', hf, ho', hb', hE', hm', hs'⟩
      exact Post.mk rfl ow' hf ⟨⟨ho', ⟨hwf.t0, hwf.t1, hwf.r1, hwf.i0, hwf.i1, hwf.b1, hwf.w0, hwf.w1⟩, _, fn, hb', .inr ⟨_, q, rfl, rfl, hr, hE'⟩⟩, hm', hs'⟩

theorem el_place (t p : Nat) (x : El) (w : World) (ow : Nat → Nat) (h : IsEl t p x w ow) :
    Calls Try.prog 22 #[.pointer (some ⟨p, 0, none⟩)] w fun e w' => e = .returned (.int .i64 x.place) ∧ w' = w := by
  obtain ⟨hop, hwf, vp, fn, hb, hc⟩ := h
  obtain ⟨hcp, hfp, hpl⟩ := hb.all
  clear hb hc hwf
  go_enter Try.func22, Try.ntmps22
  go_wp2
  go_ret
  exact ⟨rfl, rfl⟩
theorem el_state (t p : Nat) (x : El) (w : World) (ow : Nat → Nat) (h : IsEl t p x w ow) :
    Calls Try.prog 20 #[.pointer (some ⟨p, 0, none⟩)] w fun e w' => e = .returned (.agg #[.int .i64 x.s.range, .int .i64 x.s.exp]) ∧ Below w.heap.size w w' := by
  obtain ⟨hop, hwf, vp, fn, hb, hc⟩ := h
  obtain ⟨hcp, hfp, hpl⟩ := hb.all
  clear hb hc hwf
  go_enter Try.func20, Try.ntmps20
  go_wp2
  refine bodyPost_ret (v := .agg #[.int .i64 x.s.range, .int .i64 x.s.exp]) (by simp [results, Try.results20, go_sem]) rfl ?_
  exact ⟨rfl, by go_grown⟩
theorem el_met (t p g : Nat) (x : El) (ws : List Int) (v : Value) (w : World) (ow : Nat → Nat) (h : IsEl t p x w ow) (hv : Sl g 22 1 v (u64s ws) w ow) (h0 : ∀ e, x.v = some e → e.offered = true → 0 ≤ e.at_) :
    Calls Try.prog 27 #[.pointer (some ⟨p, 0, none⟩), v] w fun e w' => e = .returned (.bool (x.met ws)) ∧ ∃ n, w' = w.drewN n := by
  obtain ⟨hop, hwf, vp, fn, hb, hc⟩ := h
  obtain ⟨hcp, hfp, hpl⟩ := hb.all
  rcases hc with ⟨hx, hvp, _, _⟩ | ⟨e, q, hx, hvp, hr, hE⟩
  · subst hvp
    have e1 : x.met ws = false := by simp [El.met, hx]
    rw [e1]
    clear hb hwf hv h0
    go_enter Try.func27, Try.ntmps27
    go_wp2
    go_ret
    exact ⟨rfl, 0, rfl⟩
  · subst hvp
    have e1 : x.met ws = e.met ws := by simp [El.met, hx]
    rw [e1]
    have HX := fun n => ex_met (t + 1) q g e ws v (w.drewN n) ow (Locl.keep IsExS.loc hE (us := []) ((Fr.refl _ _ _).drewN _) (by simp)) (Locl.keep Sl.loc hv (us := []) ((Fr.refl _ _ _).drewN _) (by simp)) (h0 e hx)
    have HX := hid HX
    clear hb hwf hv h0 hE hr
    go_enter Try.func27, Try.ntmps27
    go_wp2_with (go_at_call 60; refine (HX.out 0).mono ?_; rintro en w1 ⟨rfl, k, rfl⟩)
    go_ret
    exact ⟨rfl, k, rfl⟩
end Go.Proofs.Ytkilpnfgpepfmaa
