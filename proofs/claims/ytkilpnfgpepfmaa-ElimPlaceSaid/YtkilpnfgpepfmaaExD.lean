/- exchange: the clearing; a step; whether it met. -/
import Derived.Test.YtkilpnfgpepfmaaExC
set_option linter.unusedSimpArgs false
set_option linter.unusedVariables false
set_option linter.unusedSectionVars false
open Go Go.RowKit Hat
namespace Go.Proofs.Ytkilpnfgpepfmaa
set_option maxHeartbeats 2000000
set_option maxRecDepth 100000

theorem store_err (m : Mem) (a v : Int) : (m.store a v).1 = 0 ∨ (m.store a v).1 = 2 := by unfold Mem.store; split <;> simp

theorem clears_calls (t p tm pm b1 b2 : Nat) (x : Ex) (m : Mem) (now : Int) (w : World) (ow : Nat → Nat) (h : IsExS t p x 0 w ow) (hm : IsMem tm pm m w ow) (hpc : x.pc = 5) (hst : x.st = 0)
    (hd : t < tm ∨ tm + 2 < t) (hn : m.ns.length < 1000000000)
    (h1 : Blk w b1 110 #[.pointer (some ⟨p, 0, none⟩)]) (h2 : Blk w b2 22 #[.int .u64 x.found]) :
    Calls Try.prog 111 #[.pointer (some ⟨pm, 0, none⟩), .int .u64 now, .pointer (some ⟨b1, 0, none⟩), .pointer (some ⟨b2, 0, none⟩)] w
      (Post [t, tm, tm + 1, tm + 2] w ow (.int .i64 (x.go m now).1.st) (fun w' ow' => IsExS t p (x.go m now).1 0 w' ow' ∧ IsMem tm pm (x.go m now).2 w' ow')) := by
  have hE := h
  obtain ⟨hop, hwf, nv, hb, hnx⟩ := h
  have hR := sclear_range x.found
  have HM : ∀ n, IsMem tm pm m (w.drewN n) ow := fun n => Locl.keep IsMem.loc hm (us := []) ((Fr.refl _ _ _).drewN _) (by simp)
  have HL := fun n => store_calls tm pm m x.at_ (sclear x.found) (w.drewN n) ow (HM n) hn hR.1 hR.2
  rw [Ex.go_5 x m now hpc]
  dsimp only
  clear HM hm
  have herr := store_err m x.at_ (sclear x.found)
  have hfr := hid (And.intro hwf.f0 hwf.f1)
  generalize hcw0 : sclear x.found = cw at *
  have hcw := hid hcw0
  clear hcw0
  generalize m.store x.at_ cw = r at *
  obtain ⟨er, m1⟩ := r
  dsimp only at *
  obtain ⟨hcp, hfp, hpl⟩ := hb.all
  obtain ⟨hc1, hf1, hl1⟩ := h1.all
  obtain ⟨hc2, hf2, hl2⟩ := h2.all
  have Hb := hid hb
  have HL' := hid HL
  have HE := hid hE
  have Hwf := hid hwf
  have Hd := hid hd
  clear HL hb hwf hnx hd hE h1 h2
  have fin : ∀ (y : Ex) (w1 : World) (ow1 : Nat → Nat), y.at_ = x.at_ → y.push = x.push → y.i = x.i → y.deadline = x.deadline → y.looks = x.looks → y.w = x.w → y.found = x.found → y.offered = x.offered → y.st ≠ 0 →
      Fr [tm, tm + 1, tm + 2] (w.drewN 1) w1 ow ow1 → IsExS t p y 0 w1 ow1 ∧ Fr [t, tm, tm + 1, tm + 2] w w1 ow ow1 := fun y w1 ow1 e1 e2 e3 e4 e5 e6 e7 e8 e9 hf => by
    have hd := Hd.out
    have hF : Fr [tm, tm + 1, tm + 2] w w1 ow ow1 := ((Fr.refl _ _ _).drewN 1).trans hf (by simp)
    obtain ⟨ho, _, nv', hb', _⟩ := Locl.keep IsExS.loc HE.out hF (by simp; omega)
    refine ⟨⟨ho, ?_, nv', ?_, .inl e9⟩, hF.mono (by simp)⟩
    · exact ⟨by rw [e3]; exact Hwf.out.i0, by rw [e3]; exact Hwf.out.i1, by rw [e4]; exact Hwf.out.d0, by rw [e4]; exact Hwf.out.d1, by rw [e5]; exact Hwf.out.l0, by rw [e5]; exact Hwf.out.l1, by rw [e6]; exact Hwf.out.w0, by rw [e6]; exact Hwf.out.w1, by rw [e7]; exact Hwf.out.f0, by rw [e7]; exact Hwf.out.f1⟩
    · rw [e1, e2, e3, e4, e5, e6, e8]; exact hb'
  rcases herr with he | he
  · subst he
    rw [if_neg (by simp)]
    go_enter Try.func111, Try.ntmps111
    go_wp2
    go_region_with (first
      | (go_at_call 113; refine (sClear_calls _ _ hfr.out.1 hfr.out.2).mono ?_; rw [hcw.out]; rintro e w' ⟨rfl, rfl⟩)
      | (go_at_call 112; refine (HL'.out 1).mono ?_; rintro e w1 ⟨rfl, ow1, hfx, hm1⟩))
    all_goals
      go_wp2
      go_ret
      have hq := fin { x with st := 1 } _ _ rfl rfl rfl rfl rfl rfl rfl rfl (by decide : (1 : Int) ≠ 0) hfx
      exact Post.mk rfl ow1 hq.2 ⟨hq.1, hm1⟩
  · subst he
    rw [if_pos (by decide)]
    go_enter Try.func111, Try.ntmps111
    go_wp2
    go_region_with (first
      | (go_at_call 113; refine (sClear_calls _ _ hfr.out.1 hfr.out.2).mono ?_; rw [hcw.out]; rintro e w' ⟨rfl, rfl⟩)
      | (go_at_call 112; refine (HL'.out 1).mono ?_; rintro e w1 ⟨rfl, ow1, hfx, hm1⟩))
    all_goals
      go_wp2
      go_ret
      have hq := fin { x with st := 5 } _ _ rfl rfl rfl rfl rfl rfl rfl rfl (by decide : (5 : Int) ≠ 0) hfx
      exact Post.mk rfl ow1 hq.2 ⟨hq.1, hm1⟩
end Go.Proofs.Ytkilpnfgpepfmaa
