/- exchange: a visit's first step. -/
import Derived.Test.YtkilpnfgpepfmaaEx
set_option linter.unusedSimpArgs false
set_option linter.unusedVariables false
set_option linter.unusedSectionVars false
open Go Go.RowKit Hat
namespace Go.Proofs.Ytkilpnfgpepfmaa
set_option maxHeartbeats 2000000
set_option maxRecDepth 100000

theorem load_range {t p : Nat} {m : Mem} {w : World} {ow : Nat → Nat} (h : IsMem t p m w ow) (a : Int) : 0 ≤ (m.load a).1.1 ∧ (m.load a).1.1 < 18446744073709551616 := by
  unfold Mem.load
  split
  · rename_i hh
    have hh' := (Mem.has_iff m a).1 hh
    have hk : a.toNat < m.ws.length := by omega
    have := h.2.1 (m.ws.getD a.toNat 0) (by simp [hk])
    exact this
  · simp
theorem load_err (m : Mem) (a : Int) : (m.load a).1.2 = 0 ∨ (m.load a).1.2 = 2 := by unfold Mem.load; split <;> simp

theorem first_calls (t p tm pm : Nat) (x : Ex) (m : Mem) (now : Int) (w : World) (ow : Nat → Nat) (h : IsExS t p x 0 w ow) (hm : IsMem tm pm m w ow) (hpc : x.pc = 0) (hst : x.st = 0)
    (hd : t < tm ∨ tm + 2 < t) (hn : m.ns.length < 1000000000) :
    Calls Try.prog 75 #[.pointer (some ⟨p, 0, none⟩), .pointer (some ⟨pm, 0, none⟩), .int .u64 now] w
      (Post [t, tm, tm + 1, tm + 2] w ow (.int .i64 (x.go m now).1.st) (fun w' ow' => IsExS t p (x.go m now).1 0 w' ow' ∧ IsMem tm pm (x.go m now).2 w' ow')) := by
  obtain ⟨hop, hwf, nv, hb, hnx⟩ := h
  have hrange := load_range hm x.at_
  have HM : ∀ o, IsMem tm pm m (w.alloc o) (extAll ow w.heap.size t) := fun o => Locl.keep IsMem.loc hm (us := []) ((Fr.start _ _ _ _).alloc0 _) (by simp)
  have HL := fun o => load_calls tm pm m x.at_ (w.alloc o) (extAll ow w.heap.size t) (HM o) hn
  rw [Ex.go_0 x m now hpc]
  clear HM hm
  have herr := load_err m x.at_
  generalize m.load x.at_ = r at *
  obtain ⟨⟨wv, er⟩, m1⟩ := r
  dsimp only at *
  obtain ⟨hcp, hfp, hpl⟩ := hb.all
  obtain ⟨p1, p2, p3, p4, p5⟩ := lts hpl
  have Hb := hid hb
  have HL' := hid HL
  have Hwf := hid hwf
  have Hd := hid hd
  clear HL hb hwf hnx hd
  have Hal : ∀ (w1 : World) (ow1 : Nat → Nat) (cs : Array Value) (T : TypeId), Fr [tm, tm + 1, tm + 2] (w.alloc (.cells cs T)) w1 (extAll ow w.heap.size t) ow1 →
      Blk w1 p 146 #[.int .i64 x.at_, .bool x.push, .int .u32 x.i, .int .u64 x.deadline, .int .i64 x.looks, .int .u64 x.w, nv, .int .i64 0, .bool x.offered] ∧ ow1 p = t ∧ Fr [t, tm, tm + 1, tm + 2] w w1 ow ow1 ∧ Blk w1 w.heap.size T cs ∧ p ≠ w.heap.size := fun w1 ow1 cs T hf => by
    have hd := Hd.out
    refine ⟨hf.blk (Hb.out.alloc _) (by rw [extAll_old ow hpl, hop]; simp; omega), ?_, ((Fr.start _ _ _ _).alloc0 _).trans hf (by simp), hf.blk (Blk.new _ _ _) (by rw [extAll_new ow (Nat.le_refl _)]; simp; omega), Nat.ne_of_lt hpl⟩
    rw [hf.old p (by simp only [World.size_alloc]; omega), extAll_old ow hpl, hop]
  rcases herr with he | he
  · subst he
    rw [if_neg (by simp)]
    cases hmt : meets wv x.push with
    | true =>
      rw [if_pos rfl]
      go_enter Try.func75, Try.ntmps75
      go_wp2_with (first
        | (go_at_call 89; go_in)
        | (go_at_call 90; go_in)
        | (go_at_call 98; refine (HL'.out _).mono ?_; rintro e w1 ⟨rfl, ow1, hf1, hm1⟩; obtain ⟨hb1, hop1, hF1, hx1, hne⟩ := Hal _ _ _ _ hf1; have Hb1 := hid hb1; obtain ⟨hc1, hfz1, hl1⟩ := hb1.all; have hcx := hx1.cell; have hne' := hne.symm; clear hb1 hx1)
        | (go_at_call 91; refine (sMeets_calls _ _ _ hrange.1 hrange.2).mono ?_; rintro e w' ⟨rfl, rfl⟩)
        | (go_at_call 93; refine (sState_calls _ _ hrange.1 hrange.2).mono ?_; rintro e w' ⟨rfl, rfl⟩))
      go_ret
      have hd := Hd.out
      exact Post.mk (by simp [hst]) ow1 ((hF1.setCell (by simp [hop1]) _).setCell (by simp [hop1]) _) ⟨⟨hop1, ⟨Hwf.out.i0, Hwf.out.i1, Hwf.out.d0, Hwf.out.d1, Hwf.out.l0, Hwf.out.l1, hrange.1, hrange.2, Hwf.out.f0, Hwf.out.f1⟩, _, ((Hb1.out.set' 5 _ _ rfl).set' 6 _ _ rfl), .inr (.inr (.inl ⟨rfl, rfl⟩))⟩, Locl.keep IsMem.loc hm1 (us := [t]) (((Fr.refl _ _ _).setCell (by simp [hop1]) _).setCell (by simp [hop1]) _) (by simp; omega)⟩
    | false =>
      rw [if_neg (by simp)]
      by_cases hs0 : sstate wv = 0
      · have hs1 : (sstate wv == 0) = true := by simp [hs0]
        rw [if_pos hs0]
        clear hs0
        go_enter Try.func75, Try.ntmps75
        go_wp2_with (first
          | (go_at_call 89; go_in)
          | (go_at_call 90; go_in)
          | (go_at_call 98; refine (HL'.out _).mono ?_; rintro e w1 ⟨rfl, ow1, hf1, hm1⟩; obtain ⟨hb1, hop1, hF1, hx1, hne⟩ := Hal _ _ _ _ hf1; have Hb1 := hid hb1; obtain ⟨hc1, hfz1, hl1⟩ := hb1.all; have hcx := hx1.cell; have hne' := hne.symm; clear hb1 hx1)
          | (go_at_call 91; refine (sMeets_calls _ _ _ hrange.1 hrange.2).mono ?_; rintro e w' ⟨rfl, rfl⟩)
          | (go_at_call 93; refine (sState_calls _ _ hrange.1 hrange.2).mono ?_; rintro e w' ⟨rfl, rfl⟩))
        go_ret
        have hd := Hd.out
        exact Post.mk (by simp [hst]) ow1 ((hF1.setCell (by simp [hop1]) _).setCell (by simp [hop1]) _) ⟨⟨hop1, ⟨Hwf.out.i0, Hwf.out.i1, Hwf.out.d0, Hwf.out.d1, Hwf.out.l0, Hwf.out.l1, hrange.1, hrange.2, Hwf.out.f0, Hwf.out.f1⟩, _, ((Hb1.out.set' 5 _ _ rfl).set' 6 _ _ rfl), .inr (.inr (.inr (.inl ⟨rfl, rfl⟩)))⟩, Locl.keep IsMem.loc hm1 (us := [t]) (((Fr.refl _ _ _).setCell (by simp [hop1]) _).setCell (by simp [hop1]) _) (by simp; omega)⟩
      · have hs1 : (sstate wv == 0) = false := by simp [hs0]
        rw [if_neg hs0]
        clear hs0
        go_enter Try.func75, Try.ntmps75
        go_wp2_with (first
          | (go_at_call 89; go_in)
          | (go_at_call 90; go_in)
          | (go_at_call 98; refine (HL'.out _).mono ?_; rintro e w1 ⟨rfl, ow1, hf1, hm1⟩; obtain ⟨hb1, hop1, hF1, hx1, hne⟩ := Hal _ _ _ _ hf1; have Hb1 := hid hb1; obtain ⟨hc1, hfz1, hl1⟩ := hb1.all; have hcx := hx1.cell; have hne' := hne.symm; clear hb1 hx1)
          | (go_at_call 91; refine (sMeets_calls _ _ _ hrange.1 hrange.2).mono ?_; rintro e w' ⟨rfl, rfl⟩)
          | (go_at_call 93; refine (sState_calls _ _ hrange.1 hrange.2).mono ?_; rintro e w' ⟨rfl, rfl⟩))
        go_ret
        have hd := Hd.out
        exact Post.mk (by simp [hst]) ow1 (hF1.setCell (by simp [hop1]) _) ⟨⟨hop1, ⟨Hwf.out.i0, Hwf.out.i1, Hwf.out.d0, Hwf.out.d1, Hwf.out.l0, Hwf.out.l1, hrange.1, hrange.2, Hwf.out.f0, Hwf.out.f1⟩, _, (Hb1.out.set' 5 _ _ rfl), .inl (by decide : (3 : Int) ≠ 0)⟩, Locl.keep IsMem.loc hm1 (us := [t]) ((Fr.refl _ _ _).setCell (by simp [hop1]) _) (by simp; omega)⟩
  · subst he
    rw [if_pos (by decide)]
    go_enter Try.func75, Try.ntmps75
    go_wp2_with (first
      | (go_at_call 89; go_in)
      | (go_at_call 90; go_in)
      | (go_at_call 98; refine (HL'.out _).mono ?_; rintro e w1 ⟨rfl, ow1, hf1, hm1⟩; obtain ⟨hb1, hop1, hF1, hx1, hne⟩ := Hal _ _ _ _ hf1; have Hb1 := hid hb1; obtain ⟨hc1, hfz1, hl1⟩ := hb1.all; have hcx := hx1.cell; have hne' := hne.symm; clear hb1 hx1)
      | (go_at_call 91; refine (sMeets_calls _ _ _ hrange.1 hrange.2).mono ?_; rintro e w' ⟨rfl, rfl⟩)
      | (go_at_call 93; refine (sState_calls _ _ hrange.1 hrange.2).mono ?_; rintro e w' ⟨rfl, rfl⟩))
    go_ret
    have hd := Hd.out
    exact Post.mk (by simp [hst]) ow1 hF1 ⟨⟨hop1, ⟨Hwf.out.i0, Hwf.out.i1, Hwf.out.d0, Hwf.out.d1, Hwf.out.l0, Hwf.out.l1, Hwf.out.w0, Hwf.out.w1, Hwf.out.f0, Hwf.out.f1⟩, _, Hb1.out, .inl (by decide : (5 : Int) ≠ 0)⟩, Locl.keep IsMem.loc hm1 (us := [t]) (Fr.refl _ _ _) (by simp; omega)⟩
end Go.Proofs.Ytkilpnfgpepfmaa
