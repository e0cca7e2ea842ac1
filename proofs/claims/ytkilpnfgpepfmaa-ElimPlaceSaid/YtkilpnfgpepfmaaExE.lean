/- exchange: a step of a visit; whether it met. -/
import Derived.Test.YtkilpnfgpepfmaaExD
set_option linter.unusedSimpArgs false
set_option linter.unusedVariables false
set_option linter.unusedSectionVars false
open Go Go.RowKit Hat
namespace Go.Proofs.Ytkilpnfgpepfmaa
set_option maxHeartbeats 2000000
set_option maxRecDepth 100000

theorem exNext.set {t p : Nat} {x : Ex} {nv : Value} {w : World} {ow : Nat → Nat} {cs : Array Value} (h : exNext t p x nv w ow) (hb : Blk w p 146 cs) (i : Nat) (u : Value) : exNext t p x nv (w.setCell ⟨p, i, none⟩ u) ow := by
  rcases h with hr | hr | hr | hr | hr | hr | ⟨hp, b1, b2, hv, h1, h2, o1, o2⟩
  · exact .inl hr
  · exact .inr (.inl hr)
  · exact .inr (.inr (.inl hr))
  · exact .inr (.inr (.inr (.inl hr)))
  · exact .inr (.inr (.inr (.inr (.inl hr))))
  · exact .inr (.inr (.inr (.inr (.inr (.inl hr)))))
  · exact .inr (.inr (.inr (.inr (.inr (.inr ⟨hp, b1, b2, hv, h1.far (Blk.ne_ h1 hb (by decide)) u, h2.far (Blk.ne_ h2 hb (by decide)) u, o1, o2⟩)))))

theorem step_pc0 (t p tm pm : Nat) (x : Ex) (m : Mem) (now : Int) (w : World) (ow : Nat → Nat) (h : IsExS t p x 0 w ow) (hm : IsMem tm pm m w ow) (hpc : x.pc = 0) (hst : x.st = 0)
    (hd : t < tm ∨ tm + 2 < t) (hn : m.ns.length < 1000000000) (hlk : -8000000000000000000 ≤ x.looks) :
    Calls Try.prog 55 #[.pointer (some ⟨p, 0, none⟩), .pointer (some ⟨pm, 0, none⟩), .int .u64 now] w
      (Post [t, tm, tm + 1, tm + 2] w ow (.tuple #[.int .i64 (x.go m now).1.tells.1, .int .u32 (x.go m now).1.tells.2]) (fun w' ow' => IsEx t p (x.go m now).1 w' ow' ∧ IsMem tm pm (x.go m now).2 w' ow')) := by
  obtain ⟨hop, hwf, nv, hb, hnx⟩ := id h
  obtain rfl : nv = .func (.func 75) #[.pointer (some ⟨p, 0, none⟩)] #[] := by
    rcases hnx with hx | hx | hx | hx | hx | hx | hx
    · exact absurd hst hx
    · exact hx.2
    · have := hx.1; omega
    · have := hx.1; omega
    · have := hx.1; omega
    · have := hx.1; omega
    · have := hx.1; omega
  have HG := first_calls t p tm pm x m now w ow h hm hpc hst hd hn
  clear h hm hpc hlk
  generalize x.go m now = r at *
  obtain ⟨X, M⟩ := r
  dsimp only at *
  obtain ⟨hcp, hfp, hpl⟩ := hb.all
  have HG' := hid HG
  have Hd := hid hd
  clear HG hb hwf hnx hd hst
  by_cases h1 : X.st = 1
  · have e1 : (X.st != 1) = false := by simp [h1]
    cases hpu : X.push with
    | true =>
      rw [show X.tells = (X.st, 0) from by simp [Ex.tells, h1, hpu]]
      clear h1
      go_enter Try.func55, Try.ntmps55
      go_wp2_with (go_at_call 75; refine HG'.out.mono ?_; rintro e w1 ⟨rfl, ow1, hf1, hE1, hm1⟩; obtain ⟨hop1, hwf1, nv1, hb1, hnx1⟩ := hE1; have Hb1 := hid hb1; have Hwf1 := hid hwf1; have Hnx1 := hid hnx1; obtain ⟨hc1, hfz1, hl1⟩ := hb1.all; clear hb1 hwf1 hnx1)
      go_ret2
      have hd := Hd.out
      exact Post.mk rfl ow1 (by repeat' (first | (with_reducible exact hf1) | (with_reducible refine Fr.drewN ?_ _) | (with_reducible refine Fr.setCell ?_ ?_ _) | (simp [hop1]; done))) ⟨⟨hop1, Hwf1.out, nv1, (Hb1.out.set' 7 _ _ rfl), exNext.set Hnx1.out Hb1.out 7 _⟩, Locl.keep IsMem.loc hm1 (us := [t]) (by repeat' (first | (with_reducible exact Fr.refl _ _ _) | (with_reducible refine Fr.drewN ?_ _) | (with_reducible refine Fr.setCell ?_ ?_ _) | (simp [hop1]; done))) (by simp; omega)⟩
    | false =>
      rw [show X.tells = (X.st, X.i) from by simp [Ex.tells, h1, hpu]]
      clear h1
      go_enter Try.func55, Try.ntmps55
      go_wp2_with (go_at_call 75; refine HG'.out.mono ?_; rintro e w1 ⟨rfl, ow1, hf1, hE1, hm1⟩; obtain ⟨hop1, hwf1, nv1, hb1, hnx1⟩ := hE1; have Hb1 := hid hb1; have Hwf1 := hid hwf1; have Hnx1 := hid hnx1; obtain ⟨hc1, hfz1, hl1⟩ := hb1.all; clear hb1 hwf1 hnx1)
      go_quiet (fail)
      go_wp2
      go_ret2
      have hd := Hd.out
      exact Post.mk rfl ow1 (by repeat' (first | (with_reducible exact hf1) | (with_reducible refine Fr.drewN ?_ _) | (with_reducible refine Fr.setCell ?_ ?_ _) | (simp [hop1]; done))) ⟨⟨hop1, Hwf1.out, nv1, (Hb1.out.set' 7 _ _ rfl), exNext.set Hnx1.out Hb1.out 7 _⟩, Locl.keep IsMem.loc hm1 (us := [t]) (by repeat' (first | (with_reducible exact Fr.refl _ _ _) | (with_reducible refine Fr.drewN ?_ _) | (with_reducible refine Fr.setCell ?_ ?_ _) | (simp [hop1]; done))) (by simp; omega)⟩
  · have e1 : (X.st != 1) = true := by simp [h1]
    rw [show X.tells = (X.st, 0) from by simp [Ex.tells, h1]]
    clear h1
    go_enter Try.func55, Try.ntmps55
    go_wp2_with (go_at_call 75; refine HG'.out.mono ?_; rintro e w1 ⟨rfl, ow1, hf1, hE1, hm1⟩; obtain ⟨hop1, hwf1, nv1, hb1, hnx1⟩ := hE1; have Hb1 := hid hb1; have Hwf1 := hid hwf1; have Hnx1 := hid hnx1; obtain ⟨hc1, hfz1, hl1⟩ := hb1.all; clear hb1 hwf1 hnx1)
    go_ret2
    have hd := Hd.out
    exact Post.mk rfl ow1 (by repeat' (first | (with_reducible exact hf1) | (with_reducible refine Fr.drewN ?_ _) | (with_reducible refine Fr.setCell ?_ ?_ _) | (simp [hop1]; done))) ⟨⟨hop1, Hwf1.out, nv1, (Hb1.out.set' 7 _ _ rfl), exNext.set Hnx1.out Hb1.out 7 _⟩, Locl.keep IsMem.loc hm1 (us := [t]) (by repeat' (first | (with_reducible exact Fr.refl _ _ _) | (with_reducible refine Fr.drewN ?_ _) | (with_reducible refine Fr.setCell ?_ ?_ _) | (simp [hop1]; done))) (by simp; omega)⟩

theorem step_pc1 (t p tm pm : Nat) (x : Ex) (m : Mem) (now : Int) (w : World) (ow : Nat → Nat) (h : IsExS t p x 0 w ow) (hm : IsMem tm pm m w ow) (hpc : x.pc = 1) (hst : x.st = 0)
    (hd : t < tm ∨ tm + 2 < t) (hn : m.ns.length < 1000000000) (hlk : -8000000000000000000 ≤ x.looks) :
    Calls Try.prog 55 #[.pointer (some ⟨p, 0, none⟩), .pointer (some ⟨pm, 0, none⟩), .int .u64 now] w
      (Post [t, tm, tm + 1, tm + 2] w ow (.tuple #[.int .i64 (x.go m now).1.tells.1, .int .u32 (x.go m now).1.tells.2]) (fun w' ow' => IsEx t p (x.go m now).1 w' ow' ∧ IsMem tm pm (x.go m now).2 w' ow')) := by
  obtain ⟨hop, hwf, nv, hb, hnx⟩ := id h
  obtain rfl : nv = .func (.func 92) #[.pointer (some ⟨p, 0, none⟩)] #[] := by
    rcases hnx with hx | hx | hx | hx | hx | hx | hx
    · exact absurd hst hx
    · have := hx.1; omega
    · exact hx.2
    · have := hx.1; omega
    · have := hx.1; omega
    · have := hx.1; omega
    · have := hx.1; omega
  have HG := claim_calls t p tm pm x m now w ow h hm hpc hst hd hn
  clear h hm hpc hlk
  generalize x.go m now = r at *
  obtain ⟨X, M⟩ := r
  dsimp only at *
  obtain ⟨hcp, hfp, hpl⟩ := hb.all
  have HG' := hid HG
  have Hd := hid hd
  clear HG hb hwf hnx hd hst
  by_cases h1 : X.st = 1
  · have e1 : (X.st != 1) = false := by simp [h1]
    cases hpu : X.push with
    | true =>
      rw [show X.tells = (X.st, 0) from by simp [Ex.tells, h1, hpu]]
      clear h1
      go_enter Try.func55, Try.ntmps55
      go_wp2_with (go_at_call 92; refine HG'.out.mono ?_; rintro e w1 ⟨rfl, ow1, hf1, hE1, hm1⟩; obtain ⟨hop1, hwf1, nv1, hb1, hnx1⟩ := hE1; have Hb1 := hid hb1; have Hwf1 := hid hwf1; have Hnx1 := hid hnx1; obtain ⟨hc1, hfz1, hl1⟩ := hb1.all; clear hb1 hwf1 hnx1)
      go_ret2
      have hd := Hd.out
      exact Post.mk rfl ow1 (by repeat' (first | (with_reducible exact hf1) | (with_reducible refine Fr.drewN ?_ _) | (with_reducible refine Fr.setCell ?_ ?_ _) | (simp [hop1]; done))) ⟨⟨hop1, Hwf1.out, nv1, (Hb1.out.set' 7 _ _ rfl), exNext.set Hnx1.out Hb1.out 7 _⟩, Locl.keep IsMem.loc hm1 (us := [t]) (by repeat' (first | (with_reducible exact Fr.refl _ _ _) | (with_reducible refine Fr.drewN ?_ _) | (with_reducible refine Fr.setCell ?_ ?_ _) | (simp [hop1]; done))) (by simp; omega)⟩
    | false =>
      rw [show X.tells = (X.st, X.i) from by simp [Ex.tells, h1, hpu]]
      clear h1
      go_enter Try.func55, Try.ntmps55
      go_wp2_with (go_at_call 92; refine HG'.out.mono ?_; rintro e w1 ⟨rfl, ow1, hf1, hE1, hm1⟩; obtain ⟨hop1, hwf1, nv1, hb1, hnx1⟩ := hE1; have Hb1 := hid hb1; have Hwf1 := hid hwf1; have Hnx1 := hid hnx1; obtain ⟨hc1, hfz1, hl1⟩ := hb1.all; clear hb1 hwf1 hnx1)
      go_quiet (fail)
      go_wp2
      go_ret2
      have hd := Hd.out
      exact Post.mk rfl ow1 (by repeat' (first | (with_reducible exact hf1) | (with_reducible refine Fr.drewN ?_ _) | (with_reducible refine Fr.setCell ?_ ?_ _) | (simp [hop1]; done))) ⟨⟨hop1, Hwf1.out, nv1, (Hb1.out.set' 7 _ _ rfl), exNext.set Hnx1.out Hb1.out 7 _⟩, Locl.keep IsMem.loc hm1 (us := [t]) (by repeat' (first | (with_reducible exact Fr.refl _ _ _) | (with_reducible refine Fr.drewN ?_ _) | (with_reducible refine Fr.setCell ?_ ?_ _) | (simp [hop1]; done))) (by simp; omega)⟩
  · have e1 : (X.st != 1) = true := by simp [h1]
    rw [show X.tells = (X.st, 0) from by simp [Ex.tells, h1]]
    clear h1
    go_enter Try.func55, Try.ntmps55
    go_wp2_with (go_at_call 92; refine HG'.out.mono ?_; rintro e w1 ⟨rfl, ow1, hf1, hE1, hm1⟩; obtain ⟨hop1, hwf1, nv1, hb1, hnx1⟩ := hE1; have Hb1 := hid hb1; have Hwf1 := hid hwf1; have Hnx1 := hid hnx1; obtain ⟨hc1, hfz1, hl1⟩ := hb1.all; clear hb1 hwf1 hnx1)
    go_ret2
    have hd := Hd.out
    exact Post.mk rfl ow1 (by repeat' (first | (with_reducible exact hf1) | (with_reducible refine Fr.drewN ?_ _) | (with_reducible refine Fr.setCell ?_ ?_ _) | (simp [hop1]; done))) ⟨⟨hop1, Hwf1.out, nv1, (Hb1.out.set' 7 _ _ rfl), exNext.set Hnx1.out Hb1.out 7 _⟩, Locl.keep IsMem.loc hm1 (us := [t]) (by repeat' (first | (with_reducible exact Fr.refl _ _ _) | (with_reducible refine Fr.drewN ?_ _) | (with_reducible refine Fr.setCell ?_ ?_ _) | (simp [hop1]; done))) (by simp; omega)⟩

theorem step_pc2 (t p tm pm : Nat) (x : Ex) (m : Mem) (now : Int) (w : World) (ow : Nat → Nat) (h : IsExS t p x 0 w ow) (hm : IsMem tm pm m w ow) (hpc : x.pc = 2) (hst : x.st = 0)
    (hd : t < tm ∨ tm + 2 < t) (hn : m.ns.length < 1000000000) (hlk : -8000000000000000000 ≤ x.looks) :
    Calls Try.prog 55 #[.pointer (some ⟨p, 0, none⟩), .pointer (some ⟨pm, 0, none⟩), .int .u64 now] w
      (Post [t, tm, tm + 1, tm + 2] w ow (.tuple #[.int .i64 (x.go m now).1.tells.1, .int .u32 (x.go m now).1.tells.2]) (fun w' ow' => IsEx t p (x.go m now).1 w' ow' ∧ IsMem tm pm (x.go m now).2 w' ow')) := by
  obtain ⟨hop, hwf, nv, hb, hnx⟩ := id h
  obtain rfl : nv = .func (.func 94) #[.pointer (some ⟨p, 0, none⟩)] #[] := by
    rcases hnx with hx | hx | hx | hx | hx | hx | hx
    · exact absurd hst hx
    · have := hx.1; omega
    · have := hx.1; omega
    · exact hx.2
    · have := hx.1; omega
    · have := hx.1; omega
    · have := hx.1; omega
  have HG := offer_calls t p tm pm x m now w ow h hm hpc hst hd hn
  clear h hm hpc hlk
  generalize x.go m now = r at *
  obtain ⟨X, M⟩ := r
  dsimp only at *
  obtain ⟨hcp, hfp, hpl⟩ := hb.all
  have HG' := hid HG
  have Hd := hid hd
  clear HG hb hwf hnx hd hst
  by_cases h1 : X.st = 1
  · have e1 : (X.st != 1) = false := by simp [h1]
    cases hpu : X.push with
    | true =>
      rw [show X.tells = (X.st, 0) from by simp [Ex.tells, h1, hpu]]
      clear h1
      go_enter Try.func55, Try.ntmps55
      go_wp2_with (go_at_call 94; refine HG'.out.mono ?_; rintro e w1 ⟨rfl, ow1, hf1, hE1, hm1⟩; obtain ⟨hop1, hwf1, nv1, hb1, hnx1⟩ := hE1; have Hb1 := hid hb1; have Hwf1 := hid hwf1; have Hnx1 := hid hnx1; obtain ⟨hc1, hfz1, hl1⟩ := hb1.all; clear hb1 hwf1 hnx1)
      go_ret2
      have hd := Hd.out
      exact Post.mk rfl ow1 (by repeat' (first | (with_reducible exact hf1) | (with_reducible refine Fr.drewN ?_ _) | (with_reducible refine Fr.setCell ?_ ?_ _) | (simp [hop1]; done))) ⟨⟨hop1, Hwf1.out, nv1, (Hb1.out.set' 7 _ _ rfl), exNext.set Hnx1.out Hb1.out 7 _⟩, Locl.keep IsMem.loc hm1 (us := [t]) (by repeat' (first | (with_reducible exact Fr.refl _ _ _) | (with_reducible refine Fr.drewN ?_ _) | (with_reducible refine Fr.setCell ?_ ?_ _) | (simp [hop1]; done))) (by simp; omega)⟩
    | false =>
      rw [show X.tells = (X.st, X.i) from by simp [Ex.tells, h1, hpu]]
      clear h1
      go_enter Try.func55, Try.ntmps55
      go_wp2_with (go_at_call 94; refine HG'.out.mono ?_; rintro e w1 ⟨rfl, ow1, hf1, hE1, hm1⟩; obtain ⟨hop1, hwf1, nv1, hb1, hnx1⟩ := hE1; have Hb1 := hid hb1; have Hwf1 := hid hwf1; have Hnx1 := hid hnx1; obtain ⟨hc1, hfz1, hl1⟩ := hb1.all; clear hb1 hwf1 hnx1)
      go_quiet (fail)
      go_wp2
      go_ret2
      have hd := Hd.out
      exact Post.mk rfl ow1 (by repeat' (first | (with_reducible exact hf1) | (with_reducible refine Fr.drewN ?_ _) | (with_reducible refine Fr.setCell ?_ ?_ _) | (simp [hop1]; done))) ⟨⟨hop1, Hwf1.out, nv1, (Hb1.out.set' 7 _ _ rfl), exNext.set Hnx1.out Hb1.out 7 _⟩, Locl.keep IsMem.loc hm1 (us := [t]) (by repeat' (first | (with_reducible exact Fr.refl _ _ _) | (with_reducible refine Fr.drewN ?_ _) | (with_reducible refine Fr.setCell ?_ ?_ _) | (simp [hop1]; done))) (by simp; omega)⟩
  · have e1 : (X.st != 1) = true := by simp [h1]
    rw [show X.tells = (X.st, 0) from by simp [Ex.tells, h1]]
    clear h1
    go_enter Try.func55, Try.ntmps55
    go_wp2_with (go_at_call 94; refine HG'.out.mono ?_; rintro e w1 ⟨rfl, ow1, hf1, hE1, hm1⟩; obtain ⟨hop1, hwf1, nv1, hb1, hnx1⟩ := hE1; have Hb1 := hid hb1; have Hwf1 := hid hwf1; have Hnx1 := hid hnx1; obtain ⟨hc1, hfz1, hl1⟩ := hb1.all; clear hb1 hwf1 hnx1)
    go_ret2
    have hd := Hd.out
    exact Post.mk rfl ow1 (by repeat' (first | (with_reducible exact hf1) | (with_reducible refine Fr.drewN ?_ _) | (with_reducible refine Fr.setCell ?_ ?_ _) | (simp [hop1]; done))) ⟨⟨hop1, Hwf1.out, nv1, (Hb1.out.set' 7 _ _ rfl), exNext.set Hnx1.out Hb1.out 7 _⟩, Locl.keep IsMem.loc hm1 (us := [t]) (by repeat' (first | (with_reducible exact Fr.refl _ _ _) | (with_reducible refine Fr.drewN ?_ _) | (with_reducible refine Fr.setCell ?_ ?_ _) | (simp [hop1]; done))) (by simp; omega)⟩

theorem step_pc3 (t p tm pm : Nat) (x : Ex) (m : Mem) (now : Int) (w : World) (ow : Nat → Nat) (h : IsExS t p x 0 w ow) (hm : IsMem tm pm m w ow) (hpc : x.pc = 3) (hst : x.st = 0)
    (hd : t < tm ∨ tm + 2 < t) (hn : m.ns.length < 1000000000) (hlk : -8000000000000000000 ≤ x.looks) :
    Calls Try.prog 55 #[.pointer (some ⟨p, 0, none⟩), .pointer (some ⟨pm, 0, none⟩), .int .u64 now] w
      (Post [t, tm, tm + 1, tm + 2] w ow (.tuple #[.int .i64 (x.go m now).1.tells.1, .int .u32 (x.go m now).1.tells.2]) (fun w' ow' => IsEx t p (x.go m now).1 w' ow' ∧ IsMem tm pm (x.go m now).2 w' ow')) := by
  obtain ⟨hop, hwf, nv, hb, hnx⟩ := id h
  obtain rfl : nv = .func (.func 104) #[.pointer (some ⟨p, 0, none⟩)] #[] := by
    rcases hnx with hx | hx | hx | hx | hx | hx | hx
    · exact absurd hst hx
    · have := hx.1; omega
    · have := hx.1; omega
    · have := hx.1; omega
    · exact hx.2
    · have := hx.1; omega
    · have := hx.1; omega
  have HG := look_calls t p tm pm x m now w ow h hm hpc hst hd hn hlk
  clear h hm hpc hlk
  generalize x.go m now = r at *
  obtain ⟨X, M⟩ := r
  dsimp only at *
  obtain ⟨hcp, hfp, hpl⟩ := hb.all
  have HG' := hid HG
  have Hd := hid hd
  clear HG hb hwf hnx hd hst
  by_cases h1 : X.st = 1
  · have e1 : (X.st != 1) = false := by simp [h1]
    cases hpu : X.push with
    | true =>
      rw [show X.tells = (X.st, 0) from by simp [Ex.tells, h1, hpu]]
      clear h1
      go_enter Try.func55, Try.ntmps55
      go_wp2_with (go_at_call 104; refine HG'.out.mono ?_; rintro e w1 ⟨rfl, ow1, hf1, hE1, hm1⟩; obtain ⟨hop1, hwf1, nv1, hb1, hnx1⟩ := hE1; have Hb1 := hid hb1; have Hwf1 := hid hwf1; have Hnx1 := hid hnx1; obtain ⟨hc1, hfz1, hl1⟩ := hb1.all; clear hb1 hwf1 hnx1)
      go_ret2
      have hd := Hd.out
      exact Post.mk rfl ow1 (by repeat' (first | (with_reducible exact hf1) | (with_reducible refine Fr.drewN ?_ _) | (with_reducible refine Fr.setCell ?_ ?_ _) | (simp [hop1]; done))) ⟨⟨hop1, Hwf1.out, nv1, (Hb1.out.set' 7 _ _ rfl), exNext.set Hnx1.out Hb1.out 7 _⟩, Locl.keep IsMem.loc hm1 (us := [t]) (by repeat' (first | (with_reducible exact Fr.refl _ _ _) | (with_reducible refine Fr.drewN ?_ _) | (with_reducible refine Fr.setCell ?_ ?_ _) | (simp [hop1]; done))) (by simp; omega)⟩
    | false =>
      rw [show X.tells = (X.st, X.i) from by simp [Ex.tells, h1, hpu]]
      clear h1
      go_enter Try.func55, Try.ntmps55
      go_wp2_with (go_at_call 104; refine HG'.out.mono ?_; rintro e w1 ⟨rfl, ow1, hf1, hE1, hm1⟩; obtain ⟨hop1, hwf1, nv1, hb1, hnx1⟩ := hE1; have Hb1 := hid hb1; have Hwf1 := hid hwf1; have Hnx1 := hid hnx1; obtain ⟨hc1, hfz1, hl1⟩ := hb1.all; clear hb1 hwf1 hnx1)
      go_quiet (fail)
      go_wp2
      go_ret2
      have hd := Hd.out
      exact Post.mk rfl ow1 (by repeat' (first | (with_reducible exact hf1) | (with_reducible refine Fr.drewN ?_ _) | (with_reducible refine Fr.setCell ?_ ?_ _) | (simp [hop1]; done))) ⟨⟨hop1, Hwf1.out, nv1, (Hb1.out.set' 7 _ _ rfl), exNext.set Hnx1.out Hb1.out 7 _⟩, Locl.keep IsMem.loc hm1 (us := [t]) (by repeat' (first | (with_reducible exact Fr.refl _ _ _) | (with_reducible refine Fr.drewN ?_ _) | (with_reducible refine Fr.setCell ?_ ?_ _) | (simp [hop1]; done))) (by simp; omega)⟩
  · have e1 : (X.st != 1) = true := by simp [h1]
    rw [show X.tells = (X.st, 0) from by simp [Ex.tells, h1]]
    clear h1
    go_enter Try.func55, Try.ntmps55
    go_wp2_with (go_at_call 104; refine HG'.out.mono ?_; rintro e w1 ⟨rfl, ow1, hf1, hE1, hm1⟩; obtain ⟨hop1, hwf1, nv1, hb1, hnx1⟩ := hE1; have Hb1 := hid hb1; have Hwf1 := hid hwf1; have Hnx1 := hid hnx1; obtain ⟨hc1, hfz1, hl1⟩ := hb1.all; clear hb1 hwf1 hnx1)
    go_ret2
    have hd := Hd.out
    exact Post.mk rfl ow1 (by repeat' (first | (with_reducible exact hf1) | (with_reducible refine Fr.drewN ?_ _) | (with_reducible refine Fr.setCell ?_ ?_ _) | (simp [hop1]; done))) ⟨⟨hop1, Hwf1.out, nv1, (Hb1.out.set' 7 _ _ rfl), exNext.set Hnx1.out Hb1.out 7 _⟩, Locl.keep IsMem.loc hm1 (us := [t]) (by repeat' (first | (with_reducible exact Fr.refl _ _ _) | (with_reducible refine Fr.drewN ?_ _) | (with_reducible refine Fr.setCell ?_ ?_ _) | (simp [hop1]; done))) (by simp; omega)⟩

theorem step_pc4 (t p tm pm : Nat) (x : Ex) (m : Mem) (now : Int) (w : World) (ow : Nat → Nat) (h : IsExS t p x 0 w ow) (hm : IsMem tm pm m w ow) (hpc : x.pc = 4) (hst : x.st = 0)
    (hd : t < tm ∨ tm + 2 < t) (hn : m.ns.length < 1000000000) (hlk : -8000000000000000000 ≤ x.looks) :
    Calls Try.prog 55 #[.pointer (some ⟨p, 0, none⟩), .pointer (some ⟨pm, 0, none⟩), .int .u64 now] w
      (Post [t, tm, tm + 1, tm + 2] w ow (.tuple #[.int .i64 (x.go m now).1.tells.1, .int .u32 (x.go m now).1.tells.2]) (fun w' ow' => IsEx t p (x.go m now).1 w' ow' ∧ IsMem tm pm (x.go m now).2 w' ow')) := by
  obtain ⟨hop, hwf, nv, hb, hnx⟩ := id h
  obtain rfl : nv = .func (.func 110) #[.pointer (some ⟨p, 0, none⟩)] #[] := by
    rcases hnx with hx | hx | hx | hx | hx | hx | hx
    · exact absurd hst hx
    · have := hx.1; omega
    · have := hx.1; omega
    · have := hx.1; omega
    · have := hx.1; omega
    · exact hx.2
    · have := hx.1; omega
  have HG := withdraw_calls t p tm pm x m now w ow h hm hpc hst hd hn
  clear h hm hpc hlk
  generalize x.go m now = r at *
  obtain ⟨X, M⟩ := r
  dsimp only at *
  obtain ⟨hcp, hfp, hpl⟩ := hb.all
  have HG' := hid HG
  have Hd := hid hd
  clear HG hb hwf hnx hd hst
  by_cases h1 : X.st = 1
  · have e1 : (X.st != 1) = false := by simp [h1]
    cases hpu : X.push with
    | true =>
      rw [show X.tells = (X.st, 0) from by simp [Ex.tells, h1, hpu]]
      clear h1
      go_enter Try.func55, Try.ntmps55
      go_wp2_with (go_at_call 110; refine HG'.out.mono ?_; rintro e w1 ⟨rfl, ow1, hf1, hE1, hm1⟩; obtain ⟨hop1, hwf1, nv1, hb1, hnx1⟩ := hE1; have Hb1 := hid hb1; have Hwf1 := hid hwf1; have Hnx1 := hid hnx1; obtain ⟨hc1, hfz1, hl1⟩ := hb1.all; clear hb1 hwf1 hnx1)
      go_ret2
      have hd := Hd.out
      exact Post.mk rfl ow1 (by repeat' (first | (with_reducible exact hf1) | (with_reducible refine Fr.drewN ?_ _) | (with_reducible refine Fr.setCell ?_ ?_ _) | (simp [hop1]; done))) ⟨⟨hop1, Hwf1.out, nv1, (Hb1.out.set' 7 _ _ rfl), exNext.set Hnx1.out Hb1.out 7 _⟩, Locl.keep IsMem.loc hm1 (us := [t]) (by repeat' (first | (with_reducible exact Fr.refl _ _ _) | (with_reducible refine Fr.drewN ?_ _) | (with_reducible refine Fr.setCell ?_ ?_ _) | (simp [hop1]; done))) (by simp; omega)⟩
    | false =>
      rw [show X.tells = (X.st, X.i) from by simp [Ex.tells, h1, hpu]]
      clear h1
      go_enter Try.func55, Try.ntmps55
      go_wp2_with (go_at_call 110; refine HG'.out.mono ?_; rintro e w1 ⟨rfl, ow1, hf1, hE1, hm1⟩; obtain ⟨hop1, hwf1, nv1, hb1, hnx1⟩ := hE1; have Hb1 := hid hb1; have Hwf1 := hid hwf1; have Hnx1 := hid hnx1; obtain ⟨hc1, hfz1, hl1⟩ := hb1.all; clear hb1 hwf1 hnx1)
      go_quiet (fail)
      go_wp2
      go_ret2
      have hd := Hd.out
      exact Post.mk rfl ow1 (by repeat' (first | (with_reducible exact hf1) | (with_reducible refine Fr.drewN ?_ _) | (with_reducible refine Fr.setCell ?_ ?_ _) | (simp [hop1]; done))) ⟨⟨hop1, Hwf1.out, nv1, (Hb1.out.set' 7 _ _ rfl), exNext.set Hnx1.out Hb1.out 7 _⟩, Locl.keep IsMem.loc hm1 (us := [t]) (by repeat' (first | (with_reducible exact Fr.refl _ _ _) | (with_reducible refine Fr.drewN ?_ _) | (with_reducible refine Fr.setCell ?_ ?_ _) | (simp [hop1]; done))) (by simp; omega)⟩
  · have e1 : (X.st != 1) = true := by simp [h1]
    rw [show X.tells = (X.st, 0) from by simp [Ex.tells, h1]]
    clear h1
    go_enter Try.func55, Try.ntmps55
    go_wp2_with (go_at_call 110; refine HG'.out.mono ?_; rintro e w1 ⟨rfl, ow1, hf1, hE1, hm1⟩; obtain ⟨hop1, hwf1, nv1, hb1, hnx1⟩ := hE1; have Hb1 := hid hb1; have Hwf1 := hid hwf1; have Hnx1 := hid hnx1; obtain ⟨hc1, hfz1, hl1⟩ := hb1.all; clear hb1 hwf1 hnx1)
    go_ret2
    have hd := Hd.out
    exact Post.mk rfl ow1 (by repeat' (first | (with_reducible exact hf1) | (with_reducible refine Fr.drewN ?_ _) | (with_reducible refine Fr.setCell ?_ ?_ _) | (simp [hop1]; done))) ⟨⟨hop1, Hwf1.out, nv1, (Hb1.out.set' 7 _ _ rfl), exNext.set Hnx1.out Hb1.out 7 _⟩, Locl.keep IsMem.loc hm1 (us := [t]) (by repeat' (first | (with_reducible exact Fr.refl _ _ _) | (with_reducible refine Fr.drewN ?_ _) | (with_reducible refine Fr.setCell ?_ ?_ _) | (simp [hop1]; done))) (by simp; omega)⟩

theorem step_pc5 (t p tm pm : Nat) (x : Ex) (m : Mem) (now : Int) (w : World) (ow : Nat → Nat) (h : IsExS t p x 0 w ow) (hm : IsMem tm pm m w ow) (hpc : x.pc = 5) (hst : x.st = 0)
    (hd : t < tm ∨ tm + 2 < t) (hn : m.ns.length < 1000000000) (hlk : -8000000000000000000 ≤ x.looks) :
    Calls Try.prog 55 #[.pointer (some ⟨p, 0, none⟩), .pointer (some ⟨pm, 0, none⟩), .int .u64 now] w
      (Post [t, tm, tm + 1, tm + 2] w ow (.tuple #[.int .i64 (x.go m now).1.tells.1, .int .u32 (x.go m now).1.tells.2]) (fun w' ow' => IsEx t p (x.go m now).1 w' ow' ∧ IsMem tm pm (x.go m now).2 w' ow')) := by
  obtain ⟨hop, hwf, nv, hb, hnx⟩ := id h
  obtain ⟨b1, b2, rfl, hb1, hb2⟩ : ∃ b1 b2, nv = .func (.func 111) #[] #[.pointer (some ⟨b1, 0, none⟩), .pointer (some ⟨b2, 0, none⟩)] ∧ Blk w b1 110 #[.pointer (some ⟨p, 0, none⟩)] ∧ Blk w b2 22 #[.int .u64 x.found] := by
    rcases hnx with hx | hx | hx | hx | hx | hx | hx
    · exact absurd hst hx
    · have := hx.1; omega
    · have := hx.1; omega
    · have := hx.1; omega
    · have := hx.1; omega
    · have := hx.1; omega
    · exact ⟨hx.2.choose, hx.2.choose_spec.choose, hx.2.choose_spec.choose_spec.1, hx.2.choose_spec.choose_spec.2.1, hx.2.choose_spec.choose_spec.2.2.1⟩
  have HG := clears_calls t p tm pm b1 b2 x m now w ow h hm hpc hst hd hn hb1 hb2
  clear hb1 hb2
  clear h hm hpc hlk
  generalize x.go m now = r at *
  obtain ⟨X, M⟩ := r
  dsimp only at *
  obtain ⟨hcp, hfp, hpl⟩ := hb.all
  have HG' := hid HG
  have Hd := hid hd
  clear HG hb hwf hnx hd hst
  by_cases h1 : X.st = 1
  · have e1 : (X.st != 1) = false := by simp [h1]
    cases hpu : X.push with
    | true =>
      rw [show X.tells = (X.st, 0) from by simp [Ex.tells, h1, hpu]]
      clear h1
      go_enter Try.func55, Try.ntmps55
      go_wp2_with (go_at_call 111; refine HG'.out.mono ?_; rintro e w1 ⟨rfl, ow1, hf1, hE1, hm1⟩; obtain ⟨hop1, hwf1, nv1, hb1, hnx1⟩ := hE1; have Hb1 := hid hb1; have Hwf1 := hid hwf1; have Hnx1 := hid hnx1; obtain ⟨hc1, hfz1, hl1⟩ := hb1.all; clear hb1 hwf1 hnx1)
      go_ret2
      have hd := Hd.out
      exact Post.mk rfl ow1 (by repeat' (first | (with_reducible exact hf1) | (with_reducible refine Fr.drewN ?_ _) | (with_reducible refine Fr.setCell ?_ ?_ _) | (simp [hop1]; done))) ⟨⟨hop1, Hwf1.out, nv1, (Hb1.out.set' 7 _ _ rfl), exNext.set Hnx1.out Hb1.out 7 _⟩, Locl.keep IsMem.loc hm1 (us := [t]) (by repeat' (first | (with_reducible exact Fr.refl _ _ _) | (with_reducible refine Fr.drewN ?_ _) | (with_reducible refine Fr.setCell ?_ ?_ _) | (simp [hop1]; done))) (by simp; omega)⟩
    | false =>
      rw [show X.tells = (X.st, X.i) from by simp [Ex.tells, h1, hpu]]
      clear h1
      go_enter Try.func55, Try.ntmps55
      go_wp2_with (go_at_call 111; refine HG'.out.mono ?_; rintro e w1 ⟨rfl, ow1, hf1, hE1, hm1⟩; obtain ⟨hop1, hwf1, nv1, hb1, hnx1⟩ := hE1; have Hb1 := hid hb1; have Hwf1 := hid hwf1; have Hnx1 := hid hnx1; obtain ⟨hc1, hfz1, hl1⟩ := hb1.all; clear hb1 hwf1 hnx1)
      go_quiet (fail)
      go_wp2
      go_ret2
      have hd := Hd.out
      exact Post.mk rfl ow1 (by repeat' (first | (with_reducible exact hf1) | (with_reducible refine Fr.drewN ?_ _) | (with_reducible refine Fr.setCell ?_ ?_ _) | (simp [hop1]; done))) ⟨⟨hop1, Hwf1.out, nv1, (Hb1.out.set' 7 _ _ rfl), exNext.set Hnx1.out Hb1.out 7 _⟩, Locl.keep IsMem.loc hm1 (us := [t]) (by repeat' (first | (with_reducible exact Fr.refl _ _ _) | (with_reducible refine Fr.drewN ?_ _) | (with_reducible refine Fr.setCell ?_ ?_ _) | (simp [hop1]; done))) (by simp; omega)⟩
  · have e1 : (X.st != 1) = true := by simp [h1]
    rw [show X.tells = (X.st, 0) from by simp [Ex.tells, h1]]
    clear h1
    go_enter Try.func55, Try.ntmps55
    go_wp2_with (go_at_call 111; refine HG'.out.mono ?_; rintro e w1 ⟨rfl, ow1, hf1, hE1, hm1⟩; obtain ⟨hop1, hwf1, nv1, hb1, hnx1⟩ := hE1; have Hb1 := hid hb1; have Hwf1 := hid hwf1; have Hnx1 := hid hnx1; obtain ⟨hc1, hfz1, hl1⟩ := hb1.all; clear hb1 hwf1 hnx1)
    go_ret2
    have hd := Hd.out
    exact Post.mk rfl ow1 (by repeat' (first | (with_reducible exact hf1) | (with_reducible refine Fr.drewN ?_ _) | (with_reducible refine Fr.setCell ?_ ?_ _) | (simp [hop1]; done))) ⟨⟨hop1, Hwf1.out, nv1, (Hb1.out.set' 7 _ _ rfl), exNext.set Hnx1.out Hb1.out 7 _⟩, Locl.keep IsMem.loc hm1 (us := [t]) (by repeat' (first | (with_reducible exact Fr.refl _ _ _) | (with_reducible refine Fr.drewN ?_ _) | (with_reducible refine Fr.setCell ?_ ?_ _) | (simp [hop1]; done))) (by simp; omega)⟩

end Go.Proofs.Ytkilpnfgpepfmaa
