/- exchange: a claim, an offer, a withdrawal. -/
import Derived.Test.YtkilpnfgpepfmaaExS
set_option linter.unusedSimpArgs false
set_option linter.unusedVariables false
set_option linter.unusedSectionVars false
open Go Go.RowKit Hat
namespace Go.Proofs.Ytkilpnfgpepfmaa
set_option maxHeartbeats 2000000
set_option maxRecDepth 100000

theorem quiet_same {P : Program} {f : FuncId} {args : Array Value} {w : World} {n : Nat} {v : Value}
    (h : Calls P f args (w.drewN n) fun e w' => e = .returned v ∧ w.drewN n = w') : Calls P f args (w.drewN n) fun e w'' => e = .returned v ∧ ∃ m, w'' = w.drewN m :=
  Calls.quiet_of_same (h.mono fun _ _ ⟨a, b⟩ => ⟨a, b.symm⟩)
theorem claim_range (w : Int) (p : Bool) (i : Int) (h0 : 0 ≤ w) (h1 : w < 18446744073709551616) : 0 ≤ (claim w p i).1 ∧ (claim w p i).1 < 18446744073709551616 := by
  unfold claim; split
  · exact sword_range _ _ _ (sstamp_range w h0 h1).1 (sstamp_range w h0 h1).2
  · simp
theorem offer_range (w : Int) (p : Bool) (i : Int) (h0 : 0 ≤ w) (h1 : w < 18446744073709551616) : 0 ≤ (offer w p i).1 ∧ (offer w p i).1 < 18446744073709551616 := by
  unfold offer; split
  · exact sword_range _ _ _ (sstamp_range w h0 h1).1 (sstamp_range w h0 h1).2
  · simp
theorem sclear_range (w : Int) : 0 ≤ sclear w ∧ sclear w < 18446744073709551616 := by unfold sclear; exact sword_range _ _ _ (by omega) (by omega)
theorem claim_calls (t p tm pm : Nat) (x : Ex) (m : Mem) (now : Int) (w : World) (ow : Nat → Nat) (h : IsExS t p x 0 w ow) (hm : IsMem tm pm m w ow) (hpc : x.pc = 1) (hst : x.st = 0)
    (hd : t < tm ∨ tm + 2 < t) (hn : m.ns.length < 1000000000) :
    Calls Try.prog 92 #[.pointer (some ⟨p, 0, none⟩), .pointer (some ⟨pm, 0, none⟩), .int .u64 now] w
      (Post [t, tm, tm + 1, tm + 2] w ow (.int .i64 (x.go m now).1.st) (fun w' ow' => IsExS t p (x.go m now).1 0 w' ow' ∧ IsMem tm pm (x.go m now).2 w' ow')) := by
  obtain ⟨hop, hwf, nv, hb, hnx⟩ := h
  have hR := claim_range x.w x.push x.i hwf.w0 hwf.w1
  have HM : ∀ n, IsMem tm pm m (w.drewN n) ow := fun n => Locl.keep IsMem.loc hm (us := []) ((Fr.refl _ _ _).drewN _) (by simp)
  have HI : ∀ n, IsExS t p x 0 (w.drewN n) ow := fun n => Locl.keep IsExS.loc ⟨hop, hwf, nv, hb, hnx⟩ (us := []) ((Fr.refl _ _ _).drewN _) (by simp)
  have HL := fun n => exswap_calls t p tm pm x 0 m (claim x.w x.push x.i).1 1 3 (w.drewN n) ow (HI n) (HM n) hn hR.1 hR.2
  rw [Ex.go_1 x m now hpc]
  dsimp only
  clear HM hm HI
  have herr := swap_err m x.at_ x.w (claim x.w x.push x.i).1
  generalize hcw0 : (claim x.w x.push x.i).1 = cw at *
  have hcw := hid hcw0
  clear hcw0
  generalize m.swap x.at_ x.w cw = r at *
  obtain ⟨⟨hit, er⟩, m1⟩ := r
  dsimp only at *
  obtain ⟨hcp, hfp, hpl⟩ := hb.all
  obtain ⟨p1, p2, p3, p4, p5⟩ := lts hpl
  have Hb := hid hb
  have HL' := hid HL
  have Hwf := hid hwf
  have Hd := hid hd
  have hwr := hid (And.intro hwf.w0 hwf.w1)
  have hir := hid (And.intro hwf.i0 hwf.i1)
  clear HL hb hwf hnx hd
  have Hal : ∀ (w1 : World) (ow1 : Nat → Nat) (n : Nat), Fr [tm, tm + 1, tm + 2] (w.drewN n) w1 ow ow1 →
      Blk w1 p 146 #[.int .i64 x.at_, .bool x.push, .int .u32 x.i, .int .u64 x.deadline, .int .i64 x.looks, .int .u64 x.w, nv, .int .i64 0, .bool x.offered] ∧ ow1 p = t ∧ Fr [t, tm, tm + 1, tm + 2] w w1 ow ow1 := fun w1 ow1 n hf => by
    have hd := Hd.out
    refine ⟨hf.blk (Hb.out.drewN _) (by rw [hop]; simp; omega), ?_, ((Fr.refl _ _ _).drewN _).trans hf (by simp)⟩
    rw [hf.old p (by simpa using hpl), hop]
  rcases herr with he | he
  · subst he
    rw [if_neg (by simp)]
    cases hit with
    | true =>
      rw [if_pos rfl]
      go_enter Try.func92, Try.ntmps92
      go_wp2
      go_quiet ((go_at_call 100; refine quiet_same (sClaim_calls _ _ _ _ hwr.out.1 hwr.out.2 hir.out.1 hir.out.2)))
      rw [hcw.out]
      go_wp2_with (first
        | (go_at_call 102; refine (sIndex_calls _ _ hR.1 hR.2).mono ?_; rintro e w' ⟨rfl, rfl⟩)
        | (go_at_call 101; refine (HL'.out _).mono ?_; rw [show swapped ((true, 0), m1) 1 3 = 1 from rfl]; rintro e w1 ⟨rfl, ow1, hf1, hm1⟩; obtain ⟨hb1, hop1, hF1⟩ := Hal _ _ _ hf1; have Hb1 := hid hb1; obtain ⟨hc1, hfz1, hl1⟩ := hb1.all; clear hb1))
      go_ret
      have hd := Hd.out
      exact Post.mk (by simp [hst]) ow1 (hF1.setCell (by simp [hop1]) _) ⟨⟨hop1, ⟨(sindex_range cw).1, by have := (sindex_range cw).2; dsimp only; omega, Hwf.out.d0, Hwf.out.d1, Hwf.out.l0, Hwf.out.l1, Hwf.out.w0, Hwf.out.w1, Hwf.out.f0, Hwf.out.f1⟩, _, (Hb1.out.set' 2 _ _ rfl), .inl (by decide : (1 : Int) ≠ 0)⟩, Locl.keep IsMem.loc hm1 (us := [t]) ((Fr.refl _ _ _).setCell (by simp [hop1]) _) (by simp; omega)⟩
    | false =>
      rw [if_neg (by simp)]
      go_enter Try.func92, Try.ntmps92
      go_wp2
      go_quiet ((go_at_call 100; refine quiet_same (sClaim_calls _ _ _ _ hwr.out.1 hwr.out.2 hir.out.1 hir.out.2)))
      rw [hcw.out]
      go_wp2_with (first
        | (go_at_call 102; refine (sIndex_calls _ _ hR.1 hR.2).mono ?_; rintro e w' ⟨rfl, rfl⟩)
        | (go_at_call 101; refine (HL'.out _).mono ?_; rw [show swapped ((false, 0), m1) 1 3 = 3 from rfl]; rintro e w1 ⟨rfl, ow1, hf1, hm1⟩; obtain ⟨hb1, hop1, hF1⟩ := Hal _ _ _ hf1; have Hb1 := hid hb1; obtain ⟨hc1, hfz1, hl1⟩ := hb1.all; clear hb1))
      go_ret
      have hd := Hd.out
      exact Post.mk (by simp [hst]) ow1 hF1 ⟨⟨hop1, ⟨Hwf.out.i0, Hwf.out.i1, Hwf.out.d0, Hwf.out.d1, Hwf.out.l0, Hwf.out.l1, Hwf.out.w0, Hwf.out.w1, Hwf.out.f0, Hwf.out.f1⟩, _, Hb1.out, .inl (by decide : (3 : Int) ≠ 0)⟩, Locl.keep IsMem.loc hm1 (us := [t]) (Fr.refl _ _ _) (by simp; omega)⟩
  · subst he
    rw [if_pos (by decide)]
    go_enter Try.func92, Try.ntmps92
    go_wp2
    go_quiet ((go_at_call 100; refine quiet_same (sClaim_calls _ _ _ _ hwr.out.1 hwr.out.2 hir.out.1 hir.out.2)))
    rw [hcw.out]
    go_wp2_with (first
      | (go_at_call 102; refine (sIndex_calls _ _ hR.1 hR.2).mono ?_; rintro e w' ⟨rfl, rfl⟩)
      | (go_at_call 101; refine (HL'.out _).mono ?_; rw [show swapped ((hit, 2), m1) 1 3 = 5 from rfl]; rintro e w1 ⟨rfl, ow1, hf1, hm1⟩; obtain ⟨hb1, hop1, hF1⟩ := Hal _ _ _ hf1; have Hb1 := hid hb1; obtain ⟨hc1, hfz1, hl1⟩ := hb1.all; clear hb1))
    go_ret
    have hd := Hd.out
    exact Post.mk (by simp [hst]) ow1 hF1 ⟨⟨hop1, ⟨Hwf.out.i0, Hwf.out.i1, Hwf.out.d0, Hwf.out.d1, Hwf.out.l0, Hwf.out.l1, Hwf.out.w0, Hwf.out.w1, Hwf.out.f0, Hwf.out.f1⟩, _, Hb1.out, .inl (by decide : (5 : Int) ≠ 0)⟩, Locl.keep IsMem.loc hm1 (us := [t]) (Fr.refl _ _ _) (by simp; omega)⟩

theorem offer_calls (t p tm pm : Nat) (x : Ex) (m : Mem) (now : Int) (w : World) (ow : Nat → Nat) (h : IsExS t p x 0 w ow) (hm : IsMem tm pm m w ow) (hpc : x.pc = 2) (hst : x.st = 0)
    (hd : t < tm ∨ tm + 2 < t) (hn : m.ns.length < 1000000000) :
    Calls Try.prog 94 #[.pointer (some ⟨p, 0, none⟩), .pointer (some ⟨pm, 0, none⟩), .int .u64 now] w
      (Post [t, tm, tm + 1, tm + 2] w ow (.int .i64 (x.go m now).1.st) (fun w' ow' => IsExS t p (x.go m now).1 0 w' ow' ∧ IsMem tm pm (x.go m now).2 w' ow')) := by
  obtain ⟨hop, hwf, nv, hb, hnx⟩ := h
  have hR := offer_range x.w x.push x.i hwf.w0 hwf.w1
  have HM : ∀ n, IsMem tm pm m (w.drewN n) ow := fun n => Locl.keep IsMem.loc hm (us := []) ((Fr.refl _ _ _).drewN _) (by simp)
  have HI : ∀ n, IsExS t p x 0 (w.drewN n) ow := fun n => Locl.keep IsExS.loc ⟨hop, hwf, nv, hb, hnx⟩ (us := []) ((Fr.refl _ _ _).drewN _) (by simp)
  have HL := fun n => exswap_calls t p tm pm x 0 m (offer x.w x.push x.i).1 0 3 (w.drewN n) ow (HI n) (HM n) hn hR.1 hR.2
  rw [Ex.go_2 x m now hpc]
  dsimp only
  clear HM hm HI
  have herr := swap_err m x.at_ x.w (offer x.w x.push x.i).1
  generalize hcw0 : (offer x.w x.push x.i).1 = cw at *
  have hcw := hid hcw0
  clear hcw0
  generalize m.swap x.at_ x.w cw = r at *
  obtain ⟨⟨hit, er⟩, m1⟩ := r
  dsimp only at *
  obtain ⟨hcp, hfp, hpl⟩ := hb.all
  obtain ⟨p1, p2, p3, p4, p5⟩ := lts hpl
  have Hb := hid hb
  have HL' := hid HL
  have Hwf := hid hwf
  have Hd := hid hd
  have hwr := hid (And.intro hwf.w0 hwf.w1)
  have hir := hid (And.intro hwf.i0 hwf.i1)
  clear HL hb hwf hnx hd
  have Hal : ∀ (w1 : World) (ow1 : Nat → Nat) (n : Nat), Fr [tm, tm + 1, tm + 2] (w.drewN n) w1 ow ow1 →
      Blk w1 p 146 #[.int .i64 x.at_, .bool x.push, .int .u32 x.i, .int .u64 x.deadline, .int .i64 x.looks, .int .u64 x.w, nv, .int .i64 0, .bool x.offered] ∧ ow1 p = t ∧ Fr [t, tm, tm + 1, tm + 2] w w1 ow ow1 := fun w1 ow1 n hf => by
    have hd := Hd.out
    refine ⟨hf.blk (Hb.out.drewN _) (by rw [hop]; simp; omega), ?_, ((Fr.refl _ _ _).drewN _).trans hf (by simp)⟩
    rw [hf.old p (by simpa using hpl), hop]
  rcases herr with he | he
  · subst he
    rw [if_neg (by simp)]
    cases hit with
    | true =>
      rw [if_pos rfl]
      go_enter Try.func94, Try.ntmps94
      go_wp2
      go_quiet ((go_at_call 103; refine quiet_same (sOffer_calls _ _ _ _ hwr.out.1 hwr.out.2 hir.out.1 hir.out.2)))
      rw [hcw.out]
      go_wp2_with (first
        | (go_at_call 101; refine (HL'.out _).mono ?_; rw [show swapped ((true, 0), m1) 0 3 = 0 from rfl]; rintro e w1 ⟨rfl, ow1, hf1, hm1⟩; obtain ⟨hb1, hop1, hF1⟩ := Hal _ _ _ hf1; have Hb1 := hid hb1; obtain ⟨hc1, hfz1, hl1⟩ := hb1.all; clear hb1))
      go_ret
      have hd := Hd.out
      exact Post.mk (by simp [hst]) ow1 (((hF1.setCell (by simp [hop1]) _).setCell (by simp [hop1]) _).setCell (by simp [hop1]) _) ⟨⟨hop1, ⟨Hwf.out.i0, Hwf.out.i1, Hwf.out.d0, Hwf.out.d1, Hwf.out.l0, Hwf.out.l1, hR.1, hR.2, Hwf.out.f0, Hwf.out.f1⟩, _, (((Hb1.out.set' 5 _ _ rfl).set' 8 _ _ rfl).set' 6 _ _ rfl), .inr (.inr (.inr (.inr (.inl ⟨rfl, rfl⟩))))⟩, Locl.keep IsMem.loc hm1 (us := [t]) ((((Fr.refl _ _ _).setCell (by simp [hop1]) _).setCell (by simp [hop1]) _).setCell (by simp [hop1]) _) (by simp; omega)⟩
    | false =>
      rw [if_neg (by simp)]
      go_enter Try.func94, Try.ntmps94
      go_wp2
      go_quiet ((go_at_call 103; refine quiet_same (sOffer_calls _ _ _ _ hwr.out.1 hwr.out.2 hir.out.1 hir.out.2)))
      rw [hcw.out]
      go_wp2_with (first
        | (go_at_call 101; refine (HL'.out _).mono ?_; rw [show swapped ((false, 0), m1) 0 3 = 3 from rfl]; rintro e w1 ⟨rfl, ow1, hf1, hm1⟩; obtain ⟨hb1, hop1, hF1⟩ := Hal _ _ _ hf1; have Hb1 := hid hb1; obtain ⟨hc1, hfz1, hl1⟩ := hb1.all; clear hb1))
      go_ret
      have hd := Hd.out
      exact Post.mk (by simp [hst]) ow1 hF1 ⟨⟨hop1, ⟨Hwf.out.i0, Hwf.out.i1, Hwf.out.d0, Hwf.out.d1, Hwf.out.l0, Hwf.out.l1, Hwf.out.w0, Hwf.out.w1, Hwf.out.f0, Hwf.out.f1⟩, _, Hb1.out, .inl (by decide : (3 : Int) ≠ 0)⟩, Locl.keep IsMem.loc hm1 (us := [t]) (Fr.refl _ _ _) (by simp; omega)⟩
  · subst he
    rw [if_pos (by decide)]
    go_enter Try.func94, Try.ntmps94
    go_wp2
    go_quiet ((go_at_call 103; refine quiet_same (sOffer_calls _ _ _ _ hwr.out.1 hwr.out.2 hir.out.1 hir.out.2)))
    rw [hcw.out]
    go_wp2_with (first
      | (go_at_call 101; refine (HL'.out _).mono ?_; rw [show swapped ((hit, 2), m1) 0 3 = 5 from rfl]; rintro e w1 ⟨rfl, ow1, hf1, hm1⟩; obtain ⟨hb1, hop1, hF1⟩ := Hal _ _ _ hf1; have Hb1 := hid hb1; obtain ⟨hc1, hfz1, hl1⟩ := hb1.all; clear hb1))
    go_ret
    have hd := Hd.out
    exact Post.mk (by simp [hst]) ow1 hF1 ⟨⟨hop1, ⟨Hwf.out.i0, Hwf.out.i1, Hwf.out.d0, Hwf.out.d1, Hwf.out.l0, Hwf.out.l1, Hwf.out.w0, Hwf.out.w1, Hwf.out.f0, Hwf.out.f1⟩, _, Hb1.out, .inl (by decide : (5 : Int) ≠ 0)⟩, Locl.keep IsMem.loc hm1 (us := [t]) (Fr.refl _ _ _) (by simp; omega)⟩

theorem withdraw_calls (t p tm pm : Nat) (x : Ex) (m : Mem) (now : Int) (w : World) (ow : Nat → Nat) (h : IsExS t p x 0 w ow) (hm : IsMem tm pm m w ow) (hpc : x.pc = 4) (hst : x.st = 0)
    (hd : t < tm ∨ tm + 2 < t) (hn : m.ns.length < 1000000000) :
    Calls Try.prog 110 #[.pointer (some ⟨p, 0, none⟩), .pointer (some ⟨pm, 0, none⟩), .int .u64 now] w
      (Post [t, tm, tm + 1, tm + 2] w ow (.int .i64 (x.go m now).1.st) (fun w' ow' => IsExS t p (x.go m now).1 0 w' ow' ∧ IsMem tm pm (x.go m now).2 w' ow')) := by
  obtain ⟨hop, hwf, nv, hb, hnx⟩ := h
  have hR := sclear_range x.w
  have HM : ∀ n, IsMem tm pm m (w.drewN n) ow := fun n => Locl.keep IsMem.loc hm (us := []) ((Fr.refl _ _ _).drewN _) (by simp)
  have HI : ∀ n, IsExS t p x 0 (w.drewN n) ow := fun n => Locl.keep IsExS.loc ⟨hop, hwf, nv, hb, hnx⟩ (us := []) ((Fr.refl _ _ _).drewN _) (by simp)
  have HL := exswap_calls t p tm pm x 0 m (sclear x.w) 4 0 w ow ⟨hop, hwf, nv, hb, hnx⟩ hm hn hR.1 hR.2
  rw [Ex.go_4 x m now hpc]
  dsimp only
  clear HM hm HI
  have herr := swap_err m x.at_ x.w (sclear x.w)
  generalize hcw0 : sclear x.w = cw at *
  have hcw := hid hcw0
  clear hcw0
  generalize m.swap x.at_ x.w cw = r at *
  obtain ⟨⟨hit, er⟩, m1⟩ := r
  dsimp only at *
  obtain ⟨hcp, hfp, hpl⟩ := hb.all
  obtain ⟨p1, p2, p3, p4, p5⟩ := lts hpl
  have Hb := hid hb
  have HL' := hid HL
  have Hwf := hid hwf
  have Hd := hid hd
  have hwr := hid (And.intro hwf.w0 hwf.w1)
  have hir := hid (And.intro hwf.i0 hwf.i1)
  clear HL hb hwf hnx hd
  have Hal : ∀ (w1 : World) (ow1 : Nat → Nat), Fr [tm, tm + 1, tm + 2] w w1 ow ow1 →
      Blk w1 p 146 #[.int .i64 x.at_, .bool x.push, .int .u32 x.i, .int .u64 x.deadline, .int .i64 x.looks, .int .u64 x.w, nv, .int .i64 0, .bool x.offered] ∧ ow1 p = t ∧ Fr [t, tm, tm + 1, tm + 2] w w1 ow ow1 := fun w1 ow1 hf => by
    have hd := Hd.out
    refine ⟨hf.blk Hb.out (by rw [hop]; simp; omega), ?_, hf.mono (by simp)⟩
    rw [hf.old p hpl, hop]
  rcases herr with he | he
  · subst he
    rw [if_neg (by simp)]
    cases hit with
    | true =>
      rw [if_pos rfl]
      go_enter Try.func110, Try.ntmps110
      go_wp2_with (first
        | (go_at_call 113; refine (sClear_calls _ _ hwr.out.1 hwr.out.2).mono ?_; rw [hcw.out]; rintro e w' ⟨rfl, rfl⟩)
        | (go_at_call 101; refine HL'.out.mono ?_; rw [show swapped ((true, 0), m1) 4 0 = 4 from rfl]; rintro e w1 ⟨rfl, ow1, hf1, hm1⟩; obtain ⟨hb1, hop1, hF1⟩ := Hal _ _ hf1; have Hb1 := hid hb1; obtain ⟨hc1, hfz1, hl1⟩ := hb1.all; clear hb1))
      go_ret
      have hd := Hd.out
      exact Post.mk (by simp [hst]) ow1 (hF1.setCell (by simp [hop1]) _) ⟨⟨hop1, ⟨Hwf.out.i0, Hwf.out.i1, Hwf.out.d0, Hwf.out.d1, Hwf.out.l0, Hwf.out.l1, Hwf.out.w0, Hwf.out.w1, Hwf.out.f0, Hwf.out.f1⟩, _, (Hb1.out.set' 6 _ _ rfl), .inl (by decide : (4 : Int) ≠ 0)⟩, Locl.keep IsMem.loc hm1 (us := [t]) ((Fr.refl _ _ _).setCell (by simp [hop1]) _) (by simp; omega)⟩
    | false =>
      rw [if_neg (by simp)]
      go_enter Try.func110, Try.ntmps110
      go_wp2_with (first
        | (go_at_call 113; refine (sClear_calls _ _ hwr.out.1 hwr.out.2).mono ?_; rw [hcw.out]; rintro e w' ⟨rfl, rfl⟩)
        | (go_at_call 101; refine HL'.out.mono ?_; rw [show swapped ((false, 0), m1) 4 0 = 0 from rfl]; rintro e w1 ⟨rfl, ow1, hf1, hm1⟩; obtain ⟨hb1, hop1, hF1⟩ := Hal _ _ hf1; have Hb1 := hid hb1; obtain ⟨hc1, hfz1, hl1⟩ := hb1.all; clear hb1))
      go_ret
      have hd := Hd.out
      exact Post.mk (by simp [hst]) ow1 (hF1.setCell (by simp [hop1]) _) ⟨⟨hop1, ⟨Hwf.out.i0, Hwf.out.i1, Hwf.out.d0, Hwf.out.d1, Hwf.out.l0, Hwf.out.l1, Hwf.out.w0, Hwf.out.w1, Hwf.out.f0, Hwf.out.f1⟩, _, (Hb1.out.set' 6 _ _ rfl), .inr (.inr (.inr (.inr (.inl ⟨rfl, rfl⟩))))⟩, Locl.keep IsMem.loc hm1 (us := [t]) ((Fr.refl _ _ _).setCell (by simp [hop1]) _) (by simp; omega)⟩
  · subst he
    rw [if_pos (by decide)]
    go_enter Try.func110, Try.ntmps110
    go_wp2_with (first
      | (go_at_call 113; refine (sClear_calls _ _ hwr.out.1 hwr.out.2).mono ?_; rw [hcw.out]; rintro e w' ⟨rfl, rfl⟩)
      | (go_at_call 101; refine HL'.out.mono ?_; rw [show swapped ((hit, 2), m1) 4 0 = 5 from rfl]; rintro e w1 ⟨rfl, ow1, hf1, hm1⟩; obtain ⟨hb1, hop1, hF1⟩ := Hal _ _ hf1; have Hb1 := hid hb1; obtain ⟨hc1, hfz1, hl1⟩ := hb1.all; clear hb1))
    go_ret
    have hd := Hd.out
    exact Post.mk (by simp [hst]) ow1 (hF1.setCell (by simp [hop1]) _) ⟨⟨hop1, ⟨Hwf.out.i0, Hwf.out.i1, Hwf.out.d0, Hwf.out.d1, Hwf.out.l0, Hwf.out.l1, Hwf.out.w0, Hwf.out.w1, Hwf.out.f0, Hwf.out.f1⟩, _, (Hb1.out.set' 6 _ _ rfl), .inl (by decide : (5 : Int) ≠ 0)⟩, Locl.keep IsMem.loc hm1 (us := [t]) ((Fr.refl _ _ _).setCell (by simp [hop1]) _) (by simp; omega)⟩

end Go.Proofs.Ytkilpnfgpepfmaa
