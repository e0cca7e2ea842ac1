/- hatstandlaw16.SchedErrs: the walk. -/
import Derived.Test.YtkilpnfgpepfmaaSchM
set_option linter.unusedSimpArgs false
set_option linter.unusedVariables false
set_option linter.unusedSectionVars false
open Go Go.RowKit Hat
namespace Go.Proofs.Ytkilpnfgpepfmaa
set_option maxHeartbeats 4000000
set_option maxRecDepth 100000

def TS3 : List Nat := [1, 2, 3, 4, 5, 6, 7, 8, 9, 10, 11, 12, 13, 14, 15, 16, 17, 18, 19, 20]
theorem rd_one {W : World} {b : Nat} {U : TypeId} {x : Int} (h : Blk W b U #[.int .u64 x]) : Rd 1 (.slice (some ⟨b, 0, none⟩) 1 1) (u64s [x]) W := by
  refine ⟨_, _, _, rfl, rfl, (fun e => by cases e), fun ad had j u hu => ?_⟩
  injection had with had
  subst had
  rw [addr_add0, h.cell]
  match j with
  | 0 => simpa [u64s] using hu
  | j + 1 => simp [u64s] at hu
structure GoS (w : World) (z : Nat → Nat) (p pm pr : Nat) (th : List Value) (k : Int) (m : Mem) (r : Src) (W : World) (o : Nat → Nat) : Prop where
  fr : Fr TS3 w W z o
  sched : IsSched 1 p pm pr th k W o
  mem : IsMem 3 pm m W o
  src : IsSrc 6 pr r W o
theorem GoS.next {w W W' : World} {z o o' : Nat → Nat} {p pm pr : Nat} {th : List Value} {k : Int} {m : Mem} {r : Src} (h : GoS w z p pm pr th k m r W o) (hf : Fr [] W W' o o') : GoS w z p pm pr th k m r W' o' :=
  ⟨h.fr.trans hf (by simp), Locl.keep IsSched.loc h.sched hf (by simp), Locl.keep IsMem.loc h.mem hf (by simp), Locl.keep IsSrc.loc h.src hf (by simp)⟩
theorem GoS.alloc {w W : World} {z o : Nat → Nat} {p pm pr : Nat} {th : List Value} {k : Int} {m : Mem} {r : Src} (h : GoS w z p pm pr th k m r W o) (x : Obj) : GoS w z p pm pr th k m r (W.alloc x) o := h.next ((Fr.refl [] W o).alloc0 x)
theorem GoS.began {w W W' : World} {z o o' : Nat → Nat} {p pm pr : Nat} {th th' : List Value} {k k' : Int} {m : Mem} {r : Src} (h : GoS w z p pm pr th k m r W o) (hf : Fr [1 + 1] W W' o o') (hs : IsSched 1 p pm pr th' k' W' o') : GoS w z p pm pr th' k' m r W' o' :=
  ⟨h.fr.trans hf (by simp [TS3]), hs, Locl.keep IsMem.loc h.mem hf (by simp), Locl.keep IsSrc.loc h.src hf (by simp)⟩
theorem GoS.drawn {w W W' : World} {z o o' : Nat → Nat} {p pm pr : Nat} {th : List Value} {k : Int} {m : Mem} {r r' : Src} (h : GoS w z p pm pr th k m r W o) (hf : Fr [6, 6 + 1] W W' o o') (hs : IsSrc 6 pr r' W' o') : GoS w z p pm pr th k m r' W' o' :=
  ⟨h.fr.trans hf (by simp [TS3]), Locl.keep IsSched.loc h.sched hf (by simp), Locl.keep IsMem.loc h.mem hf (by simp), hs⟩
theorem nils_mach (n : Nat) : ∀ x ∈ nils n, x = .nilIface ∨ ∃ T v, x = .iface T v := by
  intro x hx; exact .inl (List.eq_of_mem_replicate hx)
theorem set_mach {th : List Value} (h : ∀ x ∈ th, x = .nilIface ∨ ∃ T v, x = .iface T v) (j : Nat) {u : Value} (hu : u = .nilIface ∨ ∃ T v, u = .iface T v) : ∀ x ∈ th.set j u, x = .nilIface ∨ ∃ T v, x = .iface T v := by
  intro x hx
  rcases List.mem_or_eq_of_mem_set hx with h1 | h1
  · exact h x h1
  · exact h1 ▸ hu
theorem nils_busy (n : Nat) (i : Int) : busyAt (nils n) i = false := by
  by_cases h : 0 ≤ i ∧ i < (nils n).length
  · obtain ⟨j, rfl⟩ := Int.eq_ofNat_of_zero_le h.1
    refine busy_nil ?_
    have hj : j < n := by have := h.2; rw [nils_len] at this; omega
    unfold nils
    simp [hj]
  · exact busy_out h
theorem add_lo {d : Int} (h : d < 64) : (Src.add ⟨0, []⟩ d).1 = 0 := by unfold Src.add; rw [if_neg (by omega)]
theorem add_hi {d : Int} (h : ¬ d < 64) : (Src.add ⟨0, []⟩ d).1 = 1 := by unfold Src.add; rw [if_pos (by omega)]

theorem errs_bad (n t d : Int) (w : World) (hn : n < 1 ∨ 8 < n) :
    Calls Try.prog 11 #[.int .i64 n, .int .i64 t, .int .u64 d] w fun e w' => e = .returned (.bool true) ∧ Below w.heap.size w w' := by
  cases d1 : decide (n < 1) with
  | true =>
    go_enter Try.func11, Try.ntmps11
    go_wp2_with fail
    go_at_call 37
    refine (shown16_calls _ (fun _ => 0)).mono ?_
    rintro e w1 ⟨rfl, o1, hf1⟩
    go_wp2_with fail
    go_at_call 38
    refine (schedNew_bad _ [5] n _ o1 (rd_one (Blk.new w1 _ _)) (by simp) (by simp) hn).mono ?_
    rintro e w2 ⟨rfl, o2, hf2, _⟩
    go_wp2
    go_ret
    exact ⟨rfl, ((hf1.trans ((Fr.refl [] w1 o1).alloc0 _) (by simp)).trans hf2 (by simp)).below (by simp)⟩
  | false =>
    have d2 : decide (8 < n) = true := by simp only [decide_eq_false_iff_not, decide_eq_true_eq] at *; omega
    go_enter Try.func11, Try.ntmps11
    go_wp2_with fail
    go_at_call 37
    refine (shown16_calls _ (fun _ => 0)).mono ?_
    rintro e w1 ⟨rfl, o1, hf1⟩
    go_wp2_with fail
    go_at_call 38
    refine (schedNew_bad _ [5] n _ o1 (rd_one (Blk.new w1 _ _)) (by simp) (by simp) hn).mono ?_
    rintro e w2 ⟨rfl, o2, hf2, _⟩
    go_wp2
    go_ret
    exact ⟨rfl, ((hf1.trans ((Fr.refl [] w1 o1).alloc0 _) (by simp)).trans hf2 (by simp)).below (by simp)⟩

theorem errs_in_lo (n : Nat) (j : Nat) (d : Int) (w : World) (h1 : 1 ≤ n) (h8 : n ≤ 8) (hj : j < n) (d0 : 0 ≤ d) (d1 : d < 18446744073709551616) (hd : d < 64) :
    Calls Try.prog 11 #[.int .i64 (n : Int), .int .i64 (j : Int), .int .u64 d] w fun e w' => e = .returned (.bool true) ∧ Below w.heap.size w w' := by
  have e1 : decide ((n : Int) < 1) = false := by simp; omega
  have e2 : decide (8 < (n : Int)) = false := by simp; omega
  have e5 : decide (d < 64) = true := by simpa using hd
  have N1 := hid (show nils n ≠ [] by intro e; have := nils_len n; rw [e] at this; simp at this; omega)
  have N2 := hid (show (nils n).length ≤ 8 by rw [nils_len]; exact h8)
  have N3 := hid (nils_mach n)
  have HD := hid (And.intro d0 d1)
  have HA := hid (add_lo hd)
  have e3 : decide (0 ≤ (j : Int)) = true := by simp
  have e4 : decide ((j : Int) < (n : Int)) = true := by simpa using hj
  have J1 := hid (show 0 ≤ (j : Int) ∧ (j : Int) < ((nils n).length : Int) by rw [nils_len]; omega)
  have J2 := hid (show j < (nils n).length by rw [nils_len]; exact hj)
  have J0 := hid (nils_busy n (j : Int))
  have J3 := fun q => hid (set_mach (nils_mach n) j (u := .iface 100 (.pointer (some ⟨q, 0, none⟩))) (.inr ⟨_, _, rfl⟩))
  have J4 := fun q => hid (show busyAt ((nils n).set j (.iface 100 (.pointer (some ⟨q, 0, none⟩)))) (j : Int) = true from busy_is (by rw [List.getElem?_set_self (by rw [nils_len]; exact hj)]))
  have J5 := fun q => hid (show (nils n).set j (.iface 100 (.pointer (some ⟨q, 0, none⟩))) ≠ [] by intro e; have := congrArg List.length e; simp [nils_len] at this; omega)
  have J6 := fun q => hid (show ((nils n).set j (.iface 100 (.pointer (some ⟨q, 0, none⟩)))).length ≤ 8 by simp [nils_len]; exact h8)
  have J7 := fun q => hid (show 0 ≤ (j : Int) ∧ (j : Int) < (((nils n).set j (.iface 100 (.pointer (some ⟨q, 0, none⟩)))).length : Int) by simp [nils_len]; omega)
  have J8 := hid (show (j : Int) < 9223372036854775808 by omega)
  go_enter Try.func11, Try.ntmps11
  go_wp2_with fail
  go_at_call 37
  refine (shown16_calls _ (fun _ => 0)).mono ?_
  rintro e w1 ⟨rfl, o1, hf1⟩
  go_wp2_with fail
  go_at_call 38
  refine (schedNew_ok 1 3 6 _ [5] n _ o1 (rd_one (Blk.new w1 _ _)) (by simp) (by simp) h1 h8).mono ?_
  rintro e w2 ⟨p, pm, pr, rfl, o2, hf2, hs2, hm2, hr2⟩
  have G2 := hid (GoS.mk (w := w) (z := fun _ => 0) (((hf1.trans ((Fr.refl [] w1 o1).alloc0 _) (by simp)).trans hf2 (by simp)).mono (by simp)) hs2 hm2 hr2)
  clear hf1 hf2 hs2 hm2 hr2
  go_wp2_with fail
  go_at_call 40
  refine (pick_idle 1 p pm pr (nils n) 0 (j : Int) _ o2 G2.out.sched N1.out N2.out J1.out N3.out J0.out).mono ?_
  rintro e w' ⟨rfl, rfl⟩
  go_wp2_with fail
  go_at_call 39
  refine (begin_nil 1 p pm pr (nils n) 0 (j : Int) _ o2 G2.out.sched N1.out N2.out J1.out N3.out J0.out).mono ?_
  rintro e w' ⟨rfl, rfl⟩
  go_wp2_with fail
  have G3 := hid (G2.out.alloc (.cells #[.int .i64 0, .int .i64 2, .int .u64 0] 102))
  go_at_call 39
  refine (begin_ok 1 p pm pr (nils n) 0 j _ _ .nilIface _ o2 G3.out.sched N2.out J2.out N3.out J0.out).mono ?_
  rintro e w4 ⟨rfl, o4, hf4, hs4⟩
  have G4 := hid (G3.out.began hf4 hs4)
  clear hf4 hs4 G2 G3
  go_wp2_with fail
  have G5 := hid (G4.out.alloc (.cells #[.int .i64 0, .int .i64 9, .int .u64 0] 102))
  go_at_call 39
  refine (begin_busy 1 p pm pr _ 0 (j : Int) _ _ o4 G5.out.sched (J5 _).out (J6 _).out (J7 _).out (J3 _).out (J4 _).out).mono ?_
  rintro e w' ⟨rfl, rfl⟩
  go_wp2_with fail
  go_at_call 45
  refine (schedDraw_calls 1 p pm 6 pr _ 0 ⟨0, []⟩ d _ o4 G5.out.sched G5.out.src HD.out.1 HD.out.2 (by simp)).mono ?_
  rintro e w6 ⟨rfl, o6, hf6, hr6⟩
  rw [HA.out]
  have G6 := hid (G5.out.drawn hf6 hr6)
  clear hf6 hr6 G5
  go_wp2_with fail
  go_at_call 44
  refine (picks_calls 1 p pm pr _ 0 _ o6 G6.out.sched).mono ?_
  rintro e w' ⟨rfl, rfl⟩
  go_wp2_with fail
  go_at_call 42
  refine (busy_calls 1 p pm pr _ 0 (j : Int) _ o6 G6.out.sched (J5 _).out (J6 _).out J8.out (J3 _).out).mono ?_
  rintro e w' ⟨rfl, rfl⟩
  rw [(J4 _).out]
  go_wp2
  go_ret
  exact ⟨rfl, G6.out.fr.below (by simp [TS3])⟩

theorem errs_in_hi (n : Nat) (j : Nat) (d : Int) (w : World) (h1 : 1 ≤ n) (h8 : n ≤ 8) (hj : j < n) (d0 : 0 ≤ d) (d1 : d < 18446744073709551616) (hd : ¬ d < 64) :
    Calls Try.prog 11 #[.int .i64 (n : Int), .int .i64 (j : Int), .int .u64 d] w fun e w' => e = .returned (.bool true) ∧ Below w.heap.size w w' := by
  have e1 : decide ((n : Int) < 1) = false := by simp; omega
  have e2 : decide (8 < (n : Int)) = false := by simp; omega
  have e5 : decide (d < 64) = false := by simpa using hd
  have N1 := hid (show nils n ≠ [] by intro e; have := nils_len n; rw [e] at this; simp at this; omega)
  have N2 := hid (show (nils n).length ≤ 8 by rw [nils_len]; exact h8)
  have N3 := hid (nils_mach n)
  have HD := hid (And.intro d0 d1)
  have HA := hid (add_hi hd)
  have e3 : decide (0 ≤ (j : Int)) = true := by simp
  have e4 : decide ((j : Int) < (n : Int)) = true := by simpa using hj
  have J1 := hid (show 0 ≤ (j : Int) ∧ (j : Int) < ((nils n).length : Int) by rw [nils_len]; omega)
  have J2 := hid (show j < (nils n).length by rw [nils_len]; exact hj)
  have J0 := hid (nils_busy n (j : Int))
  have J3 := fun q => hid (set_mach (nils_mach n) j (u := .iface 100 (.pointer (some ⟨q, 0, none⟩))) (.inr ⟨_, _, rfl⟩))
  have J4 := fun q => hid (show busyAt ((nils n).set j (.iface 100 (.pointer (some ⟨q, 0, none⟩)))) (j : Int) = true from busy_is (by rw [List.getElem?_set_self (by rw [nils_len]; exact hj)]))
  have J5 := fun q => hid (show (nils n).set j (.iface 100 (.pointer (some ⟨q, 0, none⟩))) ≠ [] by intro e; have := congrArg List.length e; simp [nils_len] at this; omega)
  have J6 := fun q => hid (show ((nils n).set j (.iface 100 (.pointer (some ⟨q, 0, none⟩)))).length ≤ 8 by simp [nils_len]; exact h8)
  have J7 := fun q => hid (show 0 ≤ (j : Int) ∧ (j : Int) < (((nils n).set j (.iface 100 (.pointer (some ⟨q, 0, none⟩)))).length : Int) by simp [nils_len]; omega)
  have J8 := hid (show (j : Int) < 9223372036854775808 by omega)
  go_enter Try.func11, Try.ntmps11
  go_wp2_with fail
  go_at_call 37
  refine (shown16_calls _ (fun _ => 0)).mono ?_
  rintro e w1 ⟨rfl, o1, hf1⟩
  go_wp2_with fail
  go_at_call 38
  refine (schedNew_ok 1 3 6 _ [5] n _ o1 (rd_one (Blk.new w1 _ _)) (by simp) (by simp) h1 h8).mono ?_
  rintro e w2 ⟨p, pm, pr, rfl, o2, hf2, hs2, hm2, hr2⟩
  have G2 := hid (GoS.mk (w := w) (z := fun _ => 0) (((hf1.trans ((Fr.refl [] w1 o1).alloc0 _) (by simp)).trans hf2 (by simp)).mono (by simp)) hs2 hm2 hr2)
  clear hf1 hf2 hs2 hm2 hr2
  go_wp2_with fail
  go_at_call 40
  refine (pick_idle 1 p pm pr (nils n) 0 (j : Int) _ o2 G2.out.sched N1.out N2.out J1.out N3.out J0.out).mono ?_
  rintro e w' ⟨rfl, rfl⟩
  go_wp2_with fail
  go_at_call 39
  refine (begin_nil 1 p pm pr (nils n) 0 (j : Int) _ o2 G2.out.sched N1.out N2.out J1.out N3.out J0.out).mono ?_
  rintro e w' ⟨rfl, rfl⟩
  go_wp2_with fail
  have G3 := hid (G2.out.alloc (.cells #[.int .i64 0, .int .i64 2, .int .u64 0] 102))
  go_at_call 39
  refine (begin_ok 1 p pm pr (nils n) 0 j _ _ .nilIface _ o2 G3.out.sched N2.out J2.out N3.out J0.out).mono ?_
  rintro e w4 ⟨rfl, o4, hf4, hs4⟩
  have G4 := hid (G3.out.began hf4 hs4)
  clear hf4 hs4 G2 G3
  go_wp2_with fail
  have G5 := hid (G4.out.alloc (.cells #[.int .i64 0, .int .i64 9, .int .u64 0] 102))
  go_at_call 39
  refine (begin_busy 1 p pm pr _ 0 (j : Int) _ _ o4 G5.out.sched (J5 _).out (J6 _).out (J7 _).out (J3 _).out (J4 _).out).mono ?_
  rintro e w' ⟨rfl, rfl⟩
  go_wp2_with fail
  go_at_call 45
  refine (schedDraw_calls 1 p pm 6 pr _ 0 ⟨0, []⟩ d _ o4 G5.out.sched G5.out.src HD.out.1 HD.out.2 (by simp)).mono ?_
  rintro e w6 ⟨rfl, o6, hf6, hr6⟩
  rw [HA.out]
  have G6 := hid (G5.out.drawn hf6 hr6)
  clear hf6 hr6 G5
  go_wp2_with fail
  go_at_call 44
  refine (picks_calls 1 p pm pr _ 0 _ o6 G6.out.sched).mono ?_
  rintro e w' ⟨rfl, rfl⟩
  go_wp2_with fail
  go_at_call 42
  refine (busy_calls 1 p pm pr _ 0 (j : Int) _ o6 G6.out.sched (J5 _).out (J6 _).out J8.out (J3 _).out).mono ?_
  rintro e w' ⟨rfl, rfl⟩
  rw [(J4 _).out]
  go_wp2
  go_ret
  exact ⟨rfl, G6.out.fr.below (by simp [TS3])⟩

theorem errs_out_lo (n : Nat) (t : Int) (d : Int) (w : World) (h1 : 1 ≤ n) (h8 : n ≤ 8) (ht : ¬ (0 ≤ t ∧ t < n)) (t1 : t < 9223372036854775808) (d0 : 0 ≤ d) (d1 : d < 18446744073709551616) (hd : d < 64) :
    Calls Try.prog 11 #[.int .i64 (n : Int), .int .i64 t, .int .u64 d] w fun e w' => e = .returned (.bool true) ∧ Below w.heap.size w w' := by
  have e1 : decide ((n : Int) < 1) = false := by simp; omega
  have e2 : decide (8 < (n : Int)) = false := by simp; omega
  have e5 : decide (d < 64) = true := by simpa using hd
  have N1 := hid (show nils n ≠ [] by intro e; have := nils_len n; rw [e] at this; simp at this; omega)
  have N2 := hid (show (nils n).length ≤ 8 by rw [nils_len]; exact h8)
  have N3 := hid (nils_mach n)
  have HD := hid (And.intro d0 d1)
  have HA := hid (add_lo hd)
  have N4 := hid (show ¬ (0 ≤ t ∧ t < ((nils n).length : Int)) by rw [nils_len]; exact ht)
  have N5 := hid (nils_busy n t)
  have N6 := hid t1
  cases e3 : decide (0 ≤ t) with
  | false =>
    go_enter Try.func11, Try.ntmps11
    go_wp2_with fail
    go_at_call 37
    refine (shown16_calls _ (fun _ => 0)).mono ?_
    rintro e w1 ⟨rfl, o1, hf1⟩
    go_wp2_with fail
    go_at_call 38
    refine (schedNew_ok 1 3 6 _ [5] n _ o1 (rd_one (Blk.new w1 _ _)) (by simp) (by simp) h1 h8).mono ?_
    rintro e w2 ⟨p, pm, pr, rfl, o2, hf2, hs2, hm2, hr2⟩
    have G2 := hid (GoS.mk (w := w) (z := fun _ => 0) (((hf1.trans ((Fr.refl [] w1 o1).alloc0 _) (by simp)).trans hf2 (by simp)).mono (by simp)) hs2 hm2 hr2)
    clear hf1 hf2 hs2 hm2 hr2
    go_wp2_with fail
    go_at_call 40
    refine (pick_none 1 p pm pr (nils n) 0 t _ o2 G2.out.sched N1.out N2.out N4.out).mono ?_
    rintro e w' ⟨rfl, rfl⟩
    go_wp2_with fail
    go_at_call 39
    refine (begin_none 1 p pm pr (nils n) 0 t _ _ o2 G2.out.sched N1.out N2.out N4.out).mono ?_
    rintro e w' ⟨rfl, rfl⟩
    go_wp2_with fail
    have G3 := hid (G2.out.alloc (.cells #[.int .i64 0, .int .i64 2, .int .u64 0] 102))
    go_at_call 39
    refine (begin_none 1 p pm pr (nils n) 0 t _ _ o2 G3.out.sched N1.out N2.out N4.out).mono ?_
    rintro e w' ⟨rfl, rfl⟩
    clear G2
    go_wp2_with fail
    have G5 := hid (G3.out.alloc (.cells #[.int .i64 0, .int .i64 9, .int .u64 0] 102))
    go_at_call 39
    refine (begin_none 1 p pm pr (nils n) 0 t _ _ o2 G5.out.sched N1.out N2.out N4.out).mono ?_
    rintro e w' ⟨rfl, rfl⟩
    clear G3
    go_wp2_with fail
    go_at_call 45
    refine (schedDraw_calls 1 p pm 6 pr _ 0 ⟨0, []⟩ d _ o2 G5.out.sched G5.out.src HD.out.1 HD.out.2 (by simp)).mono ?_
    rintro e w6 ⟨rfl, o6, hf6, hr6⟩
    rw [HA.out]
    have G6 := hid (G5.out.drawn hf6 hr6)
    clear hf6 hr6 G5
    go_wp2_with fail
    go_at_call 44
    refine (picks_calls 1 p pm pr _ 0 _ o6 G6.out.sched).mono ?_
    rintro e w' ⟨rfl, rfl⟩
    go_wp2_with fail
    go_at_call 42
    refine (busy_calls 1 p pm pr (nils n) 0 t _ o6 G6.out.sched N1.out N2.out N6.out N3.out).mono ?_
    rintro e w' ⟨rfl, rfl⟩
    rw [N5.out]
    go_wp2
    go_ret
    exact ⟨rfl, G6.out.fr.below (by simp [TS3])⟩
  | true =>
    have e4 : decide (t < (n : Int)) = false := by simp only [decide_eq_true_eq, decide_eq_false_iff_not] at *; exact fun h => ht ⟨e3, h⟩
    go_enter Try.func11, Try.ntmps11
    go_wp2_with fail
    go_at_call 37
    refine (shown16_calls _ (fun _ => 0)).mono ?_
    rintro e w1 ⟨rfl, o1, hf1⟩
    go_wp2_with fail
    go_at_call 38
    refine (schedNew_ok 1 3 6 _ [5] n _ o1 (rd_one (Blk.new w1 _ _)) (by simp) (by simp) h1 h8).mono ?_
    rintro e w2 ⟨p, pm, pr, rfl, o2, hf2, hs2, hm2, hr2⟩
    have G2 := hid (GoS.mk (w := w) (z := fun _ => 0) (((hf1.trans ((Fr.refl [] w1 o1).alloc0 _) (by simp)).trans hf2 (by simp)).mono (by simp)) hs2 hm2 hr2)
    clear hf1 hf2 hs2 hm2 hr2
    go_wp2_with fail
    go_at_call 40
    refine (pick_none 1 p pm pr (nils n) 0 t _ o2 G2.out.sched N1.out N2.out N4.out).mono ?_
    rintro e w' ⟨rfl, rfl⟩
    go_wp2_with fail
    go_at_call 39
    refine (begin_none 1 p pm pr (nils n) 0 t _ _ o2 G2.out.sched N1.out N2.out N4.out).mono ?_
    rintro e w' ⟨rfl, rfl⟩
    go_wp2_with fail
    have G3 := hid (G2.out.alloc (.cells #[.int .i64 0, .int .i64 2, .int .u64 0] 102))
    go_at_call 39
    refine (begin_none 1 p pm pr (nils n) 0 t _ _ o2 G3.out.sched N1.out N2.out N4.out).mono ?_
    rintro e w' ⟨rfl, rfl⟩
    clear G2
    go_wp2_with fail
    have G5 := hid (G3.out.alloc (.cells #[.int .i64 0, .int .i64 9, .int .u64 0] 102))
    go_at_call 39
    refine (begin_none 1 p pm pr (nils n) 0 t _ _ o2 G5.out.sched N1.out N2.out N4.out).mono ?_
    rintro e w' ⟨rfl, rfl⟩
    clear G3
    go_wp2_with fail
    go_at_call 45
    refine (schedDraw_calls 1 p pm 6 pr _ 0 ⟨0, []⟩ d _ o2 G5.out.sched G5.out.src HD.out.1 HD.out.2 (by simp)).mono ?_
    rintro e w6 ⟨rfl, o6, hf6, hr6⟩
    rw [HA.out]
    have G6 := hid (G5.out.drawn hf6 hr6)
    clear hf6 hr6 G5
    go_wp2_with fail
    go_at_call 44
    refine (picks_calls 1 p pm pr _ 0 _ o6 G6.out.sched).mono ?_
    rintro e w' ⟨rfl, rfl⟩
    go_wp2_with fail
    go_at_call 42
    refine (busy_calls 1 p pm pr (nils n) 0 t _ o6 G6.out.sched N1.out N2.out N6.out N3.out).mono ?_
    rintro e w' ⟨rfl, rfl⟩
    rw [N5.out]
    go_wp2
    go_ret
    exact ⟨rfl, G6.out.fr.below (by simp [TS3])⟩

theorem errs_out_hi (n : Nat) (t : Int) (d : Int) (w : World) (h1 : 1 ≤ n) (h8 : n ≤ 8) (ht : ¬ (0 ≤ t ∧ t < n)) (t1 : t < 9223372036854775808) (d0 : 0 ≤ d) (d1 : d < 18446744073709551616) (hd : ¬ d < 64) :
    Calls Try.prog 11 #[.int .i64 (n : Int), .int .i64 t, .int .u64 d] w fun e w' => e = .returned (.bool true) ∧ Below w.heap.size w w' := by
  have e1 : decide ((n : Int) < 1) = false := by simp; omega
  have e2 : decide (8 < (n : Int)) = false := by simp; omega
  have e5 : decide (d < 64) = false := by simpa using hd
  have N1 := hid (show nils n ≠ [] by intro e; have := nils_len n; rw [e] at this; simp at this; omega)
  have N2 := hid (show (nils n).length ≤ 8 by rw [nils_len]; exact h8)
  have N3 := hid (nils_mach n)
  have HD := hid (And.intro d0 d1)
  have HA := hid (add_hi hd)
  have N4 := hid (show ¬ (0 ≤ t ∧ t < ((nils n).length : Int)) by rw [nils_len]; exact ht)
  have N5 := hid (nils_busy n t)
  have N6 := hid t1
  cases e3 : decide (0 ≤ t) with
  | false =>
    go_enter Try.func11, Try.ntmps11
    go_wp2_with fail
    go_at_call 37
    refine (shown16_calls _ (fun _ => 0)).mono ?_
    rintro e w1 ⟨rfl, o1, hf1⟩
    go_wp2_with fail
    go_at_call 38
    refine (schedNew_ok 1 3 6 _ [5] n _ o1 (rd_one (Blk.new w1 _ _)) (by simp) (by simp) h1 h8).mono ?_
    rintro e w2 ⟨p, pm, pr, rfl, o2, hf2, hs2, hm2, hr2⟩
    have G2 := hid (GoS.mk (w := w) (z := fun _ => 0) (((hf1.trans ((Fr.refl [] w1 o1).alloc0 _) (by simp)).trans hf2 (by simp)).mono (by simp)) hs2 hm2 hr2)
    clear hf1 hf2 hs2 hm2 hr2
    go_wp2_with fail
    go_at_call 40
    refine (pick_none 1 p pm pr (nils n) 0 t _ o2 G2.out.sched N1.out N2.out N4.out).mono ?_
    rintro e w' ⟨rfl, rfl⟩
    go_wp2_with fail
    go_at_call 39
    refine (begin_none 1 p pm pr (nils n) 0 t _ _ o2 G2.out.sched N1.out N2.out N4.out).mono ?_
    rintro e w' ⟨rfl, rfl⟩
    go_wp2_with fail
    have G3 := hid (G2.out.alloc (.cells #[.int .i64 0, .int .i64 2, .int .u64 0] 102))
    go_at_call 39
    refine (begin_none 1 p pm pr (nils n) 0 t _ _ o2 G3.out.sched N1.out N2.out N4.out).mono ?_
    rintro e w' ⟨rfl, rfl⟩
    clear G2
    go_wp2_with fail
    have G5 := hid (G3.out.alloc (.cells #[.int .i64 0, .int .i64 9, .int .u64 0] 102))
    go_at_call 39
    refine (begin_none 1 p pm pr (nils n) 0 t _ _ o2 G5.out.sched N1.out N2.out N4.out).mono ?_
    rintro e w' ⟨rfl, rfl⟩
    clear G3
    go_wp2_with fail
    go_at_call 45
    refine (schedDraw_calls 1 p pm 6 pr _ 0 ⟨0, []⟩ d _ o2 G5.out.sched G5.out.src HD.out.1 HD.out.2 (by simp)).mono ?_
    rintro e w6 ⟨rfl, o6, hf6, hr6⟩
    rw [HA.out]
    have G6 := hid (G5.out.drawn hf6 hr6)
    clear hf6 hr6 G5
    go_wp2_with fail
    go_at_call 44
    refine (picks_calls 1 p pm pr _ 0 _ o6 G6.out.sched).mono ?_
    rintro e w' ⟨rfl, rfl⟩
    go_wp2_with fail
    go_at_call 42
    refine (busy_calls 1 p pm pr (nils n) 0 t _ o6 G6.out.sched N1.out N2.out N6.out N3.out).mono ?_
    rintro e w' ⟨rfl, rfl⟩
    rw [N5.out]
    go_wp2
    go_ret
    exact ⟨rfl, G6.out.fr.below (by simp [TS3])⟩
  | true =>
    have e4 : decide (t < (n : Int)) = false := by simp only [decide_eq_true_eq, decide_eq_false_iff_not] at *; exact fun h => ht ⟨e3, h⟩
    go_enter Try.func11, Try.ntmps11
    go_wp2_with fail
    go_at_call 37
    refine (shown16_calls _ (fun _ => 0)).mono ?_
    rintro e w1 ⟨rfl, o1, hf1⟩
    go_wp2_with fail
    go_at_call 38
    refine (schedNew_ok 1 3 6 _ [5] n _ o1 (rd_one (Blk.new w1 _ _)) (by simp) (by simp) h1 h8).mono ?_
    rintro e w2 ⟨p, pm, pr, rfl, o2, hf2, hs2, hm2, hr2⟩
    have G2 := hid (GoS.mk (w := w) (z := fun _ => 0) (((hf1.trans ((Fr.refl [] w1 o1).alloc0 _) (by simp)).trans hf2 (by simp)).mono (by simp)) hs2 hm2 hr2)
    clear hf1 hf2 hs2 hm2 hr2
    go_wp2_with fail
    go_at_call 40
    refine (pick_none 1 p pm pr (nils n) 0 t _ o2 G2.out.sched N1.out N2.out N4.out).mono ?_
    rintro e w' ⟨rfl, rfl⟩
    go_wp2_with fail
    go_at_call 39
    refine (begin_none 1 p pm pr (nils n) 0 t _ _ o2 G2.out.sched N1.out N2.out N4.out).mono ?_
    rintro e w' ⟨rfl, rfl⟩
    go_wp2_with fail
    have G3 := hid (G2.out.alloc (.cells #[.int .i64 0, .int .i64 2, .int .u64 0] 102))
    go_at_call 39
    refine (begin_none 1 p pm pr (nils n) 0 t _ _ o2 G3.out.sched N1.out N2.out N4.out).mono ?_
    rintro e w' ⟨rfl, rfl⟩
    clear G2
    go_wp2_with fail
    have G5 := hid (G3.out.alloc (.cells #[.int .i64 0, .int .i64 9, .int .u64 0] 102))
    go_at_call 39
    refine (begin_none 1 p pm pr (nils n) 0 t _ _ o2 G5.out.sched N1.out N2.out N4.out).mono ?_
    rintro e w' ⟨rfl, rfl⟩
    clear G3
    go_wp2_with fail
    go_at_call 45
    refine (schedDraw_calls 1 p pm 6 pr _ 0 ⟨0, []⟩ d _ o2 G5.out.sched G5.out.src HD.out.1 HD.out.2 (by simp)).mono ?_
    rintro e w6 ⟨rfl, o6, hf6, hr6⟩
    rw [HA.out]
    have G6 := hid (G5.out.drawn hf6 hr6)
    clear hf6 hr6 G5
    go_wp2_with fail
    go_at_call 44
    refine (picks_calls 1 p pm pr _ 0 _ o6 G6.out.sched).mono ?_
    rintro e w' ⟨rfl, rfl⟩
    go_wp2_with fail
    go_at_call 42
    refine (busy_calls 1 p pm pr (nils n) 0 t _ o6 G6.out.sched N1.out N2.out N6.out N3.out).mono ?_
    rintro e w' ⟨rfl, rfl⟩
    rw [N5.out]
    go_wp2
    go_ret
    exact ⟨rfl, G6.out.fr.below (by simp [TS3])⟩
end Go.Proofs.Ytkilpnfgpepfmaa
