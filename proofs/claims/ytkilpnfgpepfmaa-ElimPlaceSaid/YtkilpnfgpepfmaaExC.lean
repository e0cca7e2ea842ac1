/- exchange: a look; the clearing. -/
import Derived.Test.YtkilpnfgpepfmaaExB
set_option linter.unusedSimpArgs false
set_option linter.unusedVariables false
set_option linter.unusedSectionVars false
open Go Go.RowKit Hat
namespace Go.Proofs.Ytkilpnfgpepfmaa
set_option maxHeartbeats 2000000
set_option maxRecDepth 100000

theorem look_calls (t p tm pm : Nat) (x : Ex) (m : Mem) (now : Int) (w : World) (ow : Nat → Nat) (h : IsExS t p x 0 w ow) (hm : IsMem tm pm m w ow) (hpc : x.pc = 3) (hst : x.st = 0)
    (hd : t < tm ∨ tm + 2 < t) (hn : m.ns.length < 1000000000) (hlk : -8000000000000000000 ≤ x.looks) :
    Calls Try.prog 104 #[.pointer (some ⟨p, 0, none⟩), .pointer (some ⟨pm, 0, none⟩), .int .u64 now] w
      (Post [t, tm, tm + 1, tm + 2] w ow (.int .i64 (x.go m now).1.st) (fun w' ow' => IsExS t p (x.go m now).1 0 w' ow' ∧ IsMem tm pm (x.go m now).2 w' ow')) := by
  obtain ⟨hop, hwf, nv, hb, hnx⟩ := h
  obtain rfl : nv = .func (.func 104) #[.pointer (some ⟨p, 0, none⟩)] #[] := by
    rcases hnx with hx | hx | hx | hx | hx | hx | hx
    · exact absurd hst hx
    · have := hx.1; omega
    · have := hx.1; omega
    · have := hx.1; omega
    · exact hx.2
    · have := hx.1; omega
    · have := hx.1; omega
  have hrange := load_range hm x.at_
  have HM : ∀ o o', IsMem tm pm m ((w.alloc o).alloc o') (extAll ow w.heap.size t) := fun o o' => Locl.keep IsMem.loc hm (us := []) (((Fr.start _ _ _ _).alloc0 _).alloc0 _) (by simp)
  have HL := fun o o' => load_calls tm pm m x.at_ ((w.alloc o).alloc o') (extAll ow w.heap.size t) (HM o o') hn
  rw [Ex.go_3 x m now hpc]
  dsimp only
  clear HM hm hnx
  have herr := load_err m x.at_
  generalize m.load x.at_ = r at *
  obtain ⟨⟨wv, er⟩, m1⟩ := r
  dsimp only at *
  obtain ⟨hcp, hfp, hpl⟩ := hb.all
  obtain ⟨p1, p2, p3, p4, p5⟩ := lts hpl
  obtain ⟨n1, n2, n3, n4, n5, n6, n7, n8, n9⟩ := nts w.heap.size
  have Hb := hid hb
  have HL' := hid HL
  have Hwf := hid hwf
  have Hd := hid hd
  have hl1 := hwf.l1
  have hwr := hid (And.intro hwf.w0 hwf.w1)
  have Hpc := hid hpc
  clear HL hb hwf hd hpc
  have Hal : ∀ (w1 : World) (ow1 : Nat → Nat) (cs cs' : Array Value) (T T' : TypeId), Fr [tm, tm + 1, tm + 2] ((w.alloc (.cells cs T)).alloc (.cells cs' T')) w1 (extAll ow w.heap.size t) ow1 →
      Blk w1 p 146 #[.int .i64 x.at_, .bool x.push, .int .u32 x.i, .int .u64 x.deadline, .int .i64 x.looks, .int .u64 x.w, .func (.func 104) #[.pointer (some ⟨p, 0, none⟩)] #[], .int .i64 0, .bool x.offered] ∧ ow1 p = t ∧ Fr [t, tm, tm + 1, tm + 2] w w1 ow ow1 ∧
      Blk w1 w.heap.size T cs ∧ Blk w1 (w.heap.size + 1) T' cs' ∧ p ≠ w.heap.size ∧ p ≠ w.heap.size + 1 := fun w1 ow1 cs cs' T T' hf => by
    have hd := Hd.out
    refine ⟨hf.blk ((Hb.out.alloc _).alloc _) (by rw [extAll_old ow hpl, hop]; simp; omega), ?_, (((Fr.start _ _ _ _).alloc0 _).alloc0 _).trans hf (by simp), hf.blk ((Blk.new _ _ _).alloc _) (by rw [extAll_new ow (Nat.le_refl _)]; simp; omega),
      hf.blk (Blk.new' _ _ _ _ (by simp)) (by rw [extAll_new ow (by omega)]; simp; omega), by omega, by omega⟩
    rw [hf.old p (by simp only [World.size_alloc]; omega), extAll_old ow hpl, hop]
  rcases herr with he | he
  · subst he
    rw [if_neg (by simp)]
    by_cases hww : wv = x.w
    · subst hww
      rw [if_pos rfl]
      by_cases hlo : x.looks - 1 ≤ 0
      · rw [if_pos (.inl hlo)]
        have d1 : decide (x.looks - 1 ≤ 0) = true := by simp; omega
        go_enter Try.func104, Try.ntmps104
        go_wp2_with (first
          | (go_at_call 89; go_in)
          | (go_at_call 108; go_in)
          | (go_at_call 109; go_in)
          | (go_at_call 98; refine (HL'.out _ _).mono ?_; rintro e w1 ⟨rfl, ow1, hf1, hm1⟩; obtain ⟨hb1, hop1, hF1, hx1, hx2, hne, hne2⟩ := Hal _ _ _ _ _ _ hf1; have Hb1 := hid hb1; obtain ⟨hc1, hfz1, hl1'⟩ := hb1.all; have hcx := hx1.cell; have hcy := hx2.cell; have hlx := hx1.lt; have hly := hx2.lt; have hne' := hne.symm; have hne2' := hne2.symm; obtain ⟨r1, r2, r3, r4, r5⟩ := lts hl1'; clear hb1 hx1 hx2))
        go_quiet (fail)
        go_wp2
        go_ret
        have hd := Hd.out
        refine Post.mk (by simp [hst]) ow1 ?_ ⟨⟨hop1, ⟨Hwf.out.i0, Hwf.out.i1, Hwf.out.d0, Hwf.out.d1, by dsimp only; omega, by dsimp only; omega, Hwf.out.w0, Hwf.out.w1, Hwf.out.f0, Hwf.out.f1⟩, _, ((Hb1.out.set' 4 _ _ rfl).drewN _).set' 6 _ _ rfl, .inr (.inr (.inr (.inr (.inr (.inl ⟨rfl, rfl⟩)))))⟩, Locl.keep IsMem.loc hm1 (us := [t]) ?_ (by simp; omega)⟩
        · repeat' (first | (with_reducible exact hF1) | (with_reducible refine Fr.drew ?_) | (with_reducible refine Fr.drewN ?_ _) | (with_reducible refine Fr.alloc0 ?_ _) | (with_reducible refine Fr.setCell ?_ ?_ _) | (simp [hop1]; done))
        · repeat' (first | (with_reducible exact Fr.refl _ _ _) | (with_reducible refine Fr.drew ?_) | (with_reducible refine Fr.drewN ?_ _) | (with_reducible refine Fr.alloc0 ?_ _) | (with_reducible refine Fr.setCell ?_ ?_ _) | (simp [hop1]; done))
      · have d1 : decide (x.looks - 1 ≤ 0) = false := by simp; omega
        by_cases hdl : x.deadline ≤ now
        · rw [if_pos (.inr hdl)]
          have d2 : decide (x.deadline ≤ now) = true := by simp [hdl]
          go_enter Try.func104, Try.ntmps104
          go_wp2_with (first
            | (go_at_call 89; go_in)
            | (go_at_call 108; go_in)
            | (go_at_call 109; go_in)
            | (go_at_call 98; refine (HL'.out _ _).mono ?_; rintro e w1 ⟨rfl, ow1, hf1, hm1⟩; obtain ⟨hb1, hop1, hF1, hx1, hx2, hne, hne2⟩ := Hal _ _ _ _ _ _ hf1; have Hb1 := hid hb1; obtain ⟨hc1, hfz1, hl1'⟩ := hb1.all; have hcx := hx1.cell; have hcy := hx2.cell; have hlx := hx1.lt; have hly := hx2.lt; have hne' := hne.symm; have hne2' := hne2.symm; obtain ⟨r1, r2, r3, r4, r5⟩ := lts hl1'; clear hb1 hx1 hx2))
          go_quiet (fail)
          go_wp2
          go_ret
          have hd := Hd.out
          refine Post.mk (by simp [hst]) ow1 ?_ ⟨⟨hop1, ⟨Hwf.out.i0, Hwf.out.i1, Hwf.out.d0, Hwf.out.d1, by dsimp only; omega, by dsimp only; omega, Hwf.out.w0, Hwf.out.w1, Hwf.out.f0, Hwf.out.f1⟩, _, ((Hb1.out.set' 4 _ _ rfl).drewN _).set' 6 _ _ rfl, .inr (.inr (.inr (.inr (.inr (.inl ⟨rfl, rfl⟩)))))⟩, Locl.keep IsMem.loc hm1 (us := [t]) ?_ (by simp; omega)⟩
          · repeat' (first | (with_reducible exact hF1) | (with_reducible refine Fr.drew ?_) | (with_reducible refine Fr.drewN ?_ _) | (with_reducible refine Fr.alloc0 ?_ _) | (with_reducible refine Fr.setCell ?_ ?_ _) | (simp [hop1]; done))
          · repeat' (first | (with_reducible exact Fr.refl _ _ _) | (with_reducible refine Fr.drew ?_) | (with_reducible refine Fr.drewN ?_ _) | (with_reducible refine Fr.alloc0 ?_ _) | (with_reducible refine Fr.setCell ?_ ?_ _) | (simp [hop1]; done))
        · rw [if_neg (fun hc => hc.elim hlo hdl)]
          have d2 : decide (x.deadline ≤ now) = false := by simp [hdl]
          go_enter Try.func104, Try.ntmps104
          go_wp2_with (first
            | (go_at_call 89; go_in)
            | (go_at_call 108; go_in)
            | (go_at_call 109; go_in)
            | (go_at_call 98; refine (HL'.out _ _).mono ?_; rintro e w1 ⟨rfl, ow1, hf1, hm1⟩; obtain ⟨hb1, hop1, hF1, hx1, hx2, hne, hne2⟩ := Hal _ _ _ _ _ _ hf1; have Hb1 := hid hb1; obtain ⟨hc1, hfz1, hl1'⟩ := hb1.all; have hcx := hx1.cell; have hcy := hx2.cell; have hlx := hx1.lt; have hly := hx2.lt; have hne' := hne.symm; have hne2' := hne2.symm; obtain ⟨r1, r2, r3, r4, r5⟩ := lts hl1'; clear hb1 hx1 hx2))
          go_quiet (fail)
          go_wp2
          go_ret
          have hd := Hd.out
          refine Post.mk (by simp [hst]) ow1 ?_ ⟨⟨hop1, ⟨Hwf.out.i0, Hwf.out.i1, Hwf.out.d0, Hwf.out.d1, by dsimp only; omega, by dsimp only; omega, Hwf.out.w0, Hwf.out.w1, Hwf.out.f0, Hwf.out.f1⟩, _, (Hb1.out.set' 4 _ _ rfl).drewN _, .inr (.inr (.inr (.inr (.inl ⟨rfl, rfl⟩))))⟩, Locl.keep IsMem.loc hm1 (us := [t]) ?_ (by simp; omega)⟩
          · repeat' (first | (with_reducible exact hF1) | (with_reducible refine Fr.drew ?_) | (with_reducible refine Fr.drewN ?_ _) | (with_reducible refine Fr.alloc0 ?_ _) | (with_reducible refine Fr.setCell ?_ ?_ _) | (simp [hop1]; done))
          · repeat' (first | (with_reducible exact Fr.refl _ _ _) | (with_reducible refine Fr.drew ?_) | (with_reducible refine Fr.drewN ?_ _) | (with_reducible refine Fr.alloc0 ?_ _) | (with_reducible refine Fr.setCell ?_ ?_ _) | (simp [hop1]; done))
    · have e1 : (wv != x.w) = true := by simp [hww]
      rw [if_neg hww]
      by_cases hs3 : sstate wv = 3
      · have e2 : (sstate wv != 3) = false := by simp [hs3]
        by_cases hsm : sstamp wv = sstamp x.w
        · have e3 : (sstamp wv != sstamp x.w) = false := by simp [hsm]
          rw [if_neg (fun hc => hc.elim (fun h => h hs3) (fun h => h hsm))]
          clear hww hs3 hsm
          go_enter Try.func104, Try.ntmps104
          go_wp2_with (first
            | (go_at_call 89; go_in)
            | (go_at_call 108; go_in)
            | (go_at_call 109; go_in)
            | (go_at_call 98; refine (HL'.out _ _).mono ?_; rintro e w1 ⟨rfl, ow1, hf1, hm1⟩; obtain ⟨hb1, hop1, hF1, hx1, hx2, hne, hne2⟩ := Hal _ _ _ _ _ _ hf1; have Hb1 := hid hb1; obtain ⟨hc1, hfz1, hl1'⟩ := hb1.all; have hcx := hx1.cell; have hcy := hx2.cell; have hlx := hx1.lt; have hly := hx2.lt; have hne' := hne.symm; have hne2' := hne2.symm; obtain ⟨r1, r2, r3, r4, r5⟩ := lts hl1'; clear hb1 hx1 hx2))
          go_quiet ((first | (go_at_call 93; refine quiet_same (sState_calls _ _ hrange.1 hrange.2)) | (go_at_call_of 106 wv; refine quiet_same (sStamp_calls _ _ hrange.1 hrange.2)) | (go_at_call 106; refine quiet_same (sStamp_calls _ _ hwr.out.1 hwr.out.2))))
          go_wp2
          go_region_with (go_at_call 102; refine (sIndex_calls _ _ hrange.1 hrange.2).mono ?_; rintro e w' ⟨rfl, rfl⟩)
          all_goals
            go_wp2
            go_ret
            have hd := Hd.out
            have hix := sindex_range wv
            refine Post.mk (by simp [hst]) (extAll ow1 w1.heap.size t) (hF1.trans (us := [t]) ?_ (by simp)) ⟨⟨?_, ⟨hix.1, by have := hix.2; dsimp only; omega, Hwf.out.d0, Hwf.out.d1, Hwf.out.l0, Hwf.out.l1, Hwf.out.w0, Hwf.out.w1, hrange.1, hrange.2⟩, .func (.func 111) #[] #[.pointer (some ⟨w1.heap.size, 0, none⟩), .pointer (some ⟨w1.heap.size + 1, 0, none⟩)], ?_, .inr (.inr (.inr (.inr (.inr (.inr ⟨rfl, w1.heap.size, w1.heap.size + 1, rfl, ?_, ?_, extAll_new ow1 (Nat.le_refl _), extAll_new ow1 (by omega)⟩)))))⟩, Locl.keep IsMem.loc hm1 (us := [t]) ?_ (by simp; omega)⟩
            · repeat' (first | (with_reducible exact Fr.start _ _ _ _) | (with_reducible refine Fr.drew ?_) | (with_reducible refine Fr.drewN ?_ _) | (with_reducible refine Fr.alloc0 ?_ _) | (with_reducible refine Fr.setCell ?_ ?_ _) | (simp [extAll_old ow1 hl1', hop1]; done))
            · rw [extAll_old ow1 hl1']; exact hop1
            · exact ((((Hb1.out.alloc _).alloc _).drewN _).set' 2 _ _ rfl).set' 6 _ _ rfl
            · repeat' (first | ((with_reducible refine Blk.new' _ _ _ _ ?_); simp only [World.size_alloc, World.size_setCell, World.size_drew]; done) | (with_reducible refine Blk.drew ?_) | (with_reducible refine Blk.drewN ?_ _) | (with_reducible refine Blk.alloc ?_ _) | (with_reducible refine Blk.far ?_ ?_ _) | (dsimp only; omega))
            · repeat' (first | ((with_reducible refine Blk.new' _ _ _ _ ?_); simp only [World.size_alloc, World.size_setCell, World.size_drew]; done) | (with_reducible refine Blk.drew ?_) | (with_reducible refine Blk.drewN ?_ _) | (with_reducible refine Blk.alloc ?_ _) | (with_reducible refine Blk.far ?_ ?_ _) | (dsimp only; omega))
            · repeat' (first | (with_reducible exact Fr.start _ _ _ _) | (with_reducible refine Fr.drew ?_) | (with_reducible refine Fr.drewN ?_ _) | (with_reducible refine Fr.alloc0 ?_ _) | (with_reducible refine Fr.setCell ?_ ?_ _) | (simp [extAll_old ow1 hl1', hop1]; done))
        · have e3 : (sstamp wv != sstamp x.w) = true := by simp [hsm]
          rw [if_pos (.inr hsm)]
          clear hww hs3 hsm
          go_enter Try.func104, Try.ntmps104
          go_wp2_with (first
            | (go_at_call 89; go_in)
            | (go_at_call 108; go_in)
            | (go_at_call 109; go_in)
            | (go_at_call 98; refine (HL'.out _ _).mono ?_; rintro e w1 ⟨rfl, ow1, hf1, hm1⟩; obtain ⟨hb1, hop1, hF1, hx1, hx2, hne, hne2⟩ := Hal _ _ _ _ _ _ hf1; have Hb1 := hid hb1; obtain ⟨hc1, hfz1, hl1'⟩ := hb1.all; have hcx := hx1.cell; have hcy := hx2.cell; have hlx := hx1.lt; have hly := hx2.lt; have hne' := hne.symm; have hne2' := hne2.symm; obtain ⟨r1, r2, r3, r4, r5⟩ := lts hl1'; clear hb1 hx1 hx2))
          go_quiet ((first | (go_at_call 93; refine quiet_same (sState_calls _ _ hrange.1 hrange.2)) | (go_at_call_of 106 wv; refine quiet_same (sStamp_calls _ _ hrange.1 hrange.2)) | (go_at_call 106; refine quiet_same (sStamp_calls _ _ hwr.out.1 hwr.out.2))))
          go_wp2
          go_ret
          have hd := Hd.out
          refine Post.mk (by simp [hst]) ow1 ?_ ⟨⟨hop1, ⟨Hwf.out.i0, Hwf.out.i1, Hwf.out.d0, Hwf.out.d1, Hwf.out.l0, Hwf.out.l1, Hwf.out.w0, Hwf.out.w1, Hwf.out.f0, Hwf.out.f1⟩, _, ((Hb1.out.alloc _).alloc _).drewN _, .inl (by decide : (5 : Int) ≠ 0)⟩, Locl.keep IsMem.loc hm1 (us := [t]) ?_ (by simp; omega)⟩
          · repeat' (first | (with_reducible exact hF1) | (with_reducible refine Fr.drew ?_) | (with_reducible refine Fr.drewN ?_ _) | (with_reducible refine Fr.alloc0 ?_ _) | (with_reducible refine Fr.setCell ?_ ?_ _) | (simp [hop1]; done))
          · repeat' (first | (with_reducible exact Fr.refl _ _ _) | (with_reducible refine Fr.drew ?_) | (with_reducible refine Fr.drewN ?_ _) | (with_reducible refine Fr.alloc0 ?_ _) | (with_reducible refine Fr.setCell ?_ ?_ _) | (simp [hop1]; done))
      · have e2 : (sstate wv != 3) = true := by simp [hs3]
        rw [if_pos (.inl hs3)]
        clear hww hs3
        go_enter Try.func104, Try.ntmps104
        go_wp2_with (first
          | (go_at_call 89; go_in)
          | (go_at_call 108; go_in)
          | (go_at_call 109; go_in)
          | (go_at_call 98; refine (HL'.out _ _).mono ?_; rintro e w1 ⟨rfl, ow1, hf1, hm1⟩; obtain ⟨hb1, hop1, hF1, hx1, hx2, hne, hne2⟩ := Hal _ _ _ _ _ _ hf1; have Hb1 := hid hb1; obtain ⟨hc1, hfz1, hl1'⟩ := hb1.all; have hcx := hx1.cell; have hcy := hx2.cell; have hlx := hx1.lt; have hly := hx2.lt; have hne' := hne.symm; have hne2' := hne2.symm; obtain ⟨r1, r2, r3, r4, r5⟩ := lts hl1'; clear hb1 hx1 hx2))
        go_quiet ((first | (go_at_call 93; refine quiet_same (sState_calls _ _ hrange.1 hrange.2)) | (go_at_call_of 106 wv; refine quiet_same (sStamp_calls _ _ hrange.1 hrange.2)) | (go_at_call 106; refine quiet_same (sStamp_calls _ _ hwr.out.1 hwr.out.2))))
        go_wp2
        go_ret
        have hd := Hd.out
        refine Post.mk (by simp [hst]) ow1 ?_ ⟨⟨hop1, ⟨Hwf.out.i0, Hwf.out.i1, Hwf.out.d0, Hwf.out.d1, Hwf.out.l0, Hwf.out.l1, Hwf.out.w0, Hwf.out.w1, Hwf.out.f0, Hwf.out.f1⟩, _, ((Hb1.out.alloc _).alloc _).drewN _, .inl (by decide : (5 : Int) ≠ 0)⟩, Locl.keep IsMem.loc hm1 (us := [t]) ?_ (by simp; omega)⟩
        · repeat' (first | (with_reducible exact hF1) | (with_reducible refine Fr.drew ?_) | (with_reducible refine Fr.drewN ?_ _) | (with_reducible refine Fr.alloc0 ?_ _) | (with_reducible refine Fr.setCell ?_ ?_ _) | (simp [hop1]; done))
        · repeat' (first | (with_reducible exact Fr.refl _ _ _) | (with_reducible refine Fr.drew ?_) | (with_reducible refine Fr.drewN ?_ _) | (with_reducible refine Fr.alloc0 ?_ _) | (with_reducible refine Fr.setCell ?_ ?_ _) | (simp [hop1]; done))
  · subst he
    rw [if_pos (by decide)]
    go_enter Try.func104, Try.ntmps104
    go_wp2_with (first
      | (go_at_call 89; go_in)
      | (go_at_call 108; go_in)
      | (go_at_call 109; go_in)
      | (go_at_call 98; refine (HL'.out _ _).mono ?_; rintro e w1 ⟨rfl, ow1, hf1, hm1⟩; obtain ⟨hb1, hop1, hF1, hx1, hx2, hne, hne2⟩ := Hal _ _ _ _ _ _ hf1; have Hb1 := hid hb1; obtain ⟨hc1, hfz1, hl1'⟩ := hb1.all; have hcx := hx1.cell; have hcy := hx2.cell; have hlx := hx1.lt; have hly := hx2.lt; have hne' := hne.symm; have hne2' := hne2.symm; obtain ⟨r1, r2, r3, r4, r5⟩ := lts hl1'; clear hb1 hx1 hx2))
    go_ret
    have hd := Hd.out
    refine Post.mk (by simp [hst]) ow1 ?_ ⟨⟨hop1, ⟨Hwf.out.i0, Hwf.out.i1, Hwf.out.d0, Hwf.out.d1, Hwf.out.l0, Hwf.out.l1, Hwf.out.w0, Hwf.out.w1, Hwf.out.f0, Hwf.out.f1⟩, _, Hb1.out, .inl (by decide : (5 : Int) ≠ 0)⟩, Locl.keep IsMem.loc hm1 (us := [t]) ?_ (by simp; omega)⟩
    · repeat' (first | (with_reducible exact hF1) | (with_reducible refine Fr.drew ?_) | (with_reducible refine Fr.drewN ?_ _) | (with_reducible refine Fr.alloc0 ?_ _) | (with_reducible refine Fr.setCell ?_ ?_ _) | (simp [hop1]; done))
    · repeat' (first | (with_reducible exact Fr.refl _ _ _) | (with_reducible refine Fr.drew ?_) | (with_reducible refine Fr.drewN ?_ _) | (with_reducible refine Fr.alloc0 ?_ _) | (with_reducible refine Fr.setCell ?_ ?_ _) | (simp [hop1]; done))

end Go.Proofs.Ytkilpnfgpepfmaa
