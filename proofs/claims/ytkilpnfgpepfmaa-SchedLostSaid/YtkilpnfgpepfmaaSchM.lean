/- hatstandlaw16's machines: Still, Adder; its pick, its shown. -/
import Derived.Test.YtkilpnfgpepfmaaSchB
set_option linter.unusedSimpArgs false
set_option linter.unusedVariables false
set_option linter.unusedSectionVars false
open Go Go.RowKit Hat
namespace Go.Proofs.Ytkilpnfgpepfmaa
set_option maxHeartbeats 2000000
set_option maxRecDepth 100000

def IsStill (t q : Nat) (s most v : Int) (w : World) (ow : Nat → Nat) : Prop :=
  ow q = t ∧ Blk w q 102 #[.int .i64 s, .int .i64 most, .int .u64 v]
theorem IsStill.loc {t q : Nat} {s most v : Int} : Locl [t] (IsStill t q s most v) := by
  intro w w' ow ow' h hr
  obtain ⟨hb', ho'⟩ := Locl.of_blk h hr.2 (by simp [hr.1])
  exact ⟨ho'.trans hr.1, hb'⟩
theorem still_run (t q : Nat) (s most v : Int) (a b : Value) (w : World) (ow : Nat → Nat) (h : IsStill t q s most v w ow) (s0 : 0 ≤ s) (s1 : s < 1000000000) (hlt : s + 1 < most) :
    Calls Try.prog 131 #[.pointer (some ⟨q, 0, none⟩), a, b] w (Post [t] w ow (.tuple #[.int .i64 0, .int .u64 0]) (IsStill t q (s + 1) most v)) := by
  obtain ⟨ho, hb⟩ := h
  obtain ⟨hcp, hfp, hpl⟩ := hb.all
  have hd : decide (s + 1 < most) = true := by simpa using hlt
  have HB := hid hb
  have HO := hid ho
  clear hb ho hlt
  go_enter Try.func131, Try.ntmps131
  go_wp2
  go_quiet (fail)
  go_wp2
  go_ret2
  exact Post.mk rfl ow (((Fr.refl _ _ _).setCell (by simp [HO.out]) _).drewN _) ⟨HO.out, (HB.out.set' 0 _ _ rfl).drewN _⟩
theorem still_end (t q : Nat) (s most v : Int) (a b : Value) (w : World) (ow : Nat → Nat) (h : IsStill t q s most v w ow) (s0 : 0 ≤ s) (s1 : s < 1000000000) (hlt : ¬ s + 1 < most) :
    Calls Try.prog 131 #[.pointer (some ⟨q, 0, none⟩), a, b] w (Post [t] w ow (.tuple #[.int .i64 1, .int .u64 v]) (IsStill t q (s + 1) most v)) := by
  obtain ⟨ho, hb⟩ := h
  obtain ⟨hcp, hfp, hpl⟩ := hb.all
  have hd : decide (s + 1 < most) = false := by simpa using hlt
  have HB := hid hb
  have HO := hid ho
  clear hb ho hlt
  go_enter Try.func131, Try.ntmps131
  go_wp2
  go_quiet (fail)
  go_wp2
  go_quiet (fail)
  go_wp2
  go_ret2
  refine Post.mk rfl ow ?_ ⟨HO.out, ?_⟩
  · repeat' (first | exact (Fr.refl _ _ _).setCell (by simp [HO.out]) _ | refine Fr.drewN ?_ _ | refine Fr.drew ?_)
  · repeat' (first | exact HB.out.set' 0 _ _ rfl | refine Blk.drewN ?_ _ | refine Blk.drew ?_)

def IsAdder (t q : Nat) (at_ most by_ : Int) (read : Bool) (x did : Int) (w : World) (ow : Nat → Nat) : Prop :=
  ow q = t ∧ Blk w q 92 #[.int .i64 at_, .int .i64 most, .int .u64 by_, .bool read, .int .u64 x, .int .i64 did]
theorem IsAdder.loc {t q : Nat} {at_ most by_ x did : Int} {read : Bool} : Locl [t] (IsAdder t q at_ most by_ read x did) := by
  intro w w' ow ow' h hr
  obtain ⟨hb', ho'⟩ := Locl.of_blk h hr.2 (by simp [hr.1])
  exact ⟨ho'.trans hr.1, hb'⟩
theorem adder_read (t q tm pm : Nat) (at_ most by_ x did : Int) (m : Mem) (b : Value) (w : World) (ow : Nat → Nat) (h : IsAdder t q at_ most by_ false x did w ow) (hm : IsMem tm pm m w ow) (hn : m.ns.length < 1000000000)
    (hd : t < tm) :
    Calls Try.prog 130 #[.pointer (some ⟨q, 0, none⟩), .pointer (some ⟨pm, 0, none⟩), b] w
      (Post [t, tm, tm + 1, tm + 2] w ow (.tuple #[.int .i64 0, .int .u64 0]) (fun w' ow' => IsAdder t q at_ most by_ true (m.load at_).1.1 did w' ow' ∧ IsMem tm pm (m.load at_).2 w' ow')) := by
  obtain ⟨ho, hb⟩ := h
  obtain ⟨hcp, hfp, hpl⟩ := hb.all
  have HL := hid (load_calls tm pm m at_ w ow hm hn)
  have HB := hid hb
  have HO := hid ho
  have hnt : ow q ∉ [tm, tm + 1, tm + 2] := by rw [ho]; simp; omega
  have HK := fun w1 o1 (hf : Fr [tm, tm + 1, tm + 2] w w1 ow o1) => (hf.blk HB.out hnt)
  have HK := hid HK
  have HK2 := hid (fun w1 o1 (hf : Fr [tm, tm + 1, tm + 2] w w1 ow o1) => (hf.own HB.out).trans HO.out)
  clear hb ho hm
  go_enter Try.func130, Try.ntmps130
  go_wp2_with (first
    | (go_at_call 98
       refine HL.out.mono ?_
       rintro e w1 ⟨rfl, o1, hf1, hm1⟩
       have hb1 := HK.out w1 o1 hf1
       obtain ⟨hcp1, hfp1, hpl1⟩ := hb1.all
       have HB1 := hid hb1
       have HO1 := hid (HK2.out w1 o1 hf1)
       have HF1 := hid hf1
       have HM1 := hid hm1
       clear hb1 hf1 hm1))
  go_ret2
  have f2 : Fr [t] w1 ((w1.setCell ⟨q, 4, none⟩ (.int .u64 (m.load at_).1.1)).setCell ⟨q, 3, none⟩ (.bool true)) o1 o1 := ((Fr.refl _ _ _).setCell (by simp [HO1.out]) _).setCell (by simp [HO1.out]) _
  refine Post.mk rfl o1 ((HF1.out.mono (by simp +contextual)).trans f2 (by simp)) ⟨⟨HO1.out, ((HB1.out.set' 4 _ _ rfl).set' 3 _ _ rfl)⟩, Locl.keep IsMem.loc HM1.out f2 (by simp; omega)⟩
theorem adder_run (t q tm pm : Nat) (at_ most by_ x did y : Int) (m : Mem) (b : Value) (w : World) (ow : Nat → Nat) (h : IsAdder t q at_ most by_ true x did w ow) (hm : IsMem tm pm m w ow) (hn : m.ns.length < 1000000000)
    (hd : t < tm) (hx : 0 ≤ x ∧ x < 18446744073709551616) (hby : 0 ≤ by_ ∧ by_ < 18446744073709551616) (hy : (x + by_) % 18446744073709551616 = y) (d0 : 0 ≤ did) (d1 : did < 1000000000) (hlt : did + 1 < most) :
    Calls Try.prog 130 #[.pointer (some ⟨q, 0, none⟩), .pointer (some ⟨pm, 0, none⟩), b] w
      (Post [t, tm, tm + 1, tm + 2] w ow (.tuple #[.int .i64 0, .int .u64 0]) (fun w' ow' => IsAdder t q at_ most by_ false x (did + 1) w' ow' ∧ IsMem tm pm (m.store at_ y).2 w' ow')) := by
  have y0 : 0 ≤ y ∧ y < 18446744073709551616 := by omega
  have hy' : IntKind.u64.wrap (x + by_) = y := by rw [IntKind.wrap_u64]; exact hy
  obtain ⟨ho, hb⟩ := h
  obtain ⟨hcp, hfp, hpl⟩ := hb.all
  have HL := hid (store_calls tm pm m at_ y w.drew ow (Locl.keep IsMem.loc hm (us := []) ((Fr.refl _ _ _).drew) (by simp)) hn y0.1 y0.2)
  have HB := hid hb
  have HO := hid ho
  have hnt : ow q ∉ [tm, tm + 1, tm + 2] := by rw [ho]; simp; omega
  have HK := hid (fun w1 o1 (hf : Fr [tm, tm + 1, tm + 2] w.drew w1 ow o1) => (hf.blk HB.out.drew hnt))
  have HK2 := hid (fun w1 o1 (hf : Fr [tm, tm + 1, tm + 2] w.drew w1 ow o1) => (hf.own HB.out.drew).trans HO.out)
  have hdm : decide (did + 1 < most) = true := by simpa using hlt
  have HY := hid hy
  have HY' := hid hy'
  clear hb ho hm hy hy' hlt hnt
  go_enter Try.func130, Try.ntmps130
  go_wp2
  go_region_held3 (fun w' => ∀ i, w'.cell? ⟨q, i, none⟩ = (#[.int .i64 at_, .int .i64 most, .int .u64 by_, .bool true, .int .u64 x, .int .i64 did] : Array Value)[i]?)
    (first | exact hcp | exact hcp1 | go_keep)
    ((first
      | (go_at_call 112
         first
           | rw [HY'.out]
           | rw [HY.out]
         refine HL.out.mono ?_
         rintro e w1 ⟨rfl, o1, hf1, hm1⟩
         have hb1 := HK.out w1 o1 hf1
         obtain ⟨hcp1, hfp1, hpl1⟩ := hb1.all
         have HB1 := hid hb1
         have HO1 := hid (HK2.out w1 o1 hf1)
         have HF1 := hid hf1
         have HM1 := hid hm1
         clear hb1 hf1 hm1)))
  clear hcp hfp hpl HL HB HO HK HK2
  go_wp2
  go_quiet (fail)
  go_wp2


  go_ret2
  have f2 : Fr [t] w1 ((w1.setCell ⟨q, 3, none⟩ (.bool false)).setCell ⟨q, 5, none⟩ (.int .i64 (did + 1))) o1 o1 := ((Fr.refl _ _ _).setCell (by simp [HO1.out]) _).setCell (by simp [HO1.out]) _
  have b2 := ((HB1.out.set' 3 (.bool false) _ rfl).set' 5 (.int .i64 (did + 1)) _ rfl)
  have ff := (((Fr.refl [] w ow).drew.mono (ts := [t, tm, tm + 1, tm + 2]) (by simp)).trans (HF1.out.mono (ts := [t, tm, tm + 1, tm + 2]) (by simp +contextual)) (by simp)).trans f2 (by simp)
  have mm := Locl.keep IsMem.loc HM1.out f2 (by simp; omega)

  refine Post.mk rfl o1 ?_ ⟨⟨HO1.out, ?_⟩, ?_⟩
  · repeat' (first | exact ff | refine Fr.drewN ?_ _ | refine Fr.drew ?_)
  · repeat' (first | exact b2 | refine Blk.drewN ?_ _ | refine Blk.drew ?_)
  · refine Locl.keep IsMem.loc mm (us := []) ?_ (by simp)
    repeat' (first | exact Fr.refl _ _ _ | refine Fr.drewN ?_ _ | refine Fr.drew ?_)
theorem adder_end (t q tm pm : Nat) (at_ most by_ x did y : Int) (m : Mem) (b : Value) (w : World) (ow : Nat → Nat) (h : IsAdder t q at_ most by_ true x did w ow) (hm : IsMem tm pm m w ow) (hn : m.ns.length < 1000000000)
    (hd : t < tm) (hx : 0 ≤ x ∧ x < 18446744073709551616) (hby : 0 ≤ by_ ∧ by_ < 18446744073709551616) (hy : (x + by_) % 18446744073709551616 = y) (d0 : 0 ≤ did) (d1 : did < 1000000000) (hlt : ¬ did + 1 < most) :
    Calls Try.prog 130 #[.pointer (some ⟨q, 0, none⟩), .pointer (some ⟨pm, 0, none⟩), b] w
      (Post [t, tm, tm + 1, tm + 2] w ow (.tuple #[.int .i64 1, .int .u64 y]) (fun w' ow' => IsAdder t q at_ most by_ false x (did + 1) w' ow' ∧ IsMem tm pm (m.store at_ y).2 w' ow')) := by
  have y0 : 0 ≤ y ∧ y < 18446744073709551616 := by omega
  have hy' : IntKind.u64.wrap (x + by_) = y := by rw [IntKind.wrap_u64]; exact hy
  obtain ⟨ho, hb⟩ := h
  obtain ⟨hcp, hfp, hpl⟩ := hb.all
  have HL := hid (store_calls tm pm m at_ y w.drew ow (Locl.keep IsMem.loc hm (us := []) ((Fr.refl _ _ _).drew) (by simp)) hn y0.1 y0.2)
  have HB := hid hb
  have HO := hid ho
  have hnt : ow q ∉ [tm, tm + 1, tm + 2] := by rw [ho]; simp; omega
  have HK := hid (fun w1 o1 (hf : Fr [tm, tm + 1, tm + 2] w.drew w1 ow o1) => (hf.blk HB.out.drew hnt))
  have HK2 := hid (fun w1 o1 (hf : Fr [tm, tm + 1, tm + 2] w.drew w1 ow o1) => (hf.own HB.out.drew).trans HO.out)
  have hdm : decide (did + 1 < most) = false := by simpa using hlt
  have HY := hid hy
  have HY' := hid hy'
  clear hb ho hm hy hy' hlt hnt
  go_enter Try.func130, Try.ntmps130
  go_wp2
  go_region_held3 (fun w' => ∀ i, w'.cell? ⟨q, i, none⟩ = (#[.int .i64 at_, .int .i64 most, .int .u64 by_, .bool true, .int .u64 x, .int .i64 did] : Array Value)[i]?)
    (first | exact hcp | exact hcp1 | go_keep)
    ((first
      | (go_at_call 112
         first
           | rw [HY'.out]
           | rw [HY.out]
         refine HL.out.mono ?_
         rintro e w1 ⟨rfl, o1, hf1, hm1⟩
         have hb1 := HK.out w1 o1 hf1
         obtain ⟨hcp1, hfp1, hpl1⟩ := hb1.all
         have HB1 := hid hb1
         have HO1 := hid (HK2.out w1 o1 hf1)
         have HF1 := hid hf1
         have HM1 := hid hm1
         clear hb1 hf1 hm1)))
  clear hcp hfp hpl HL HB HO HK HK2
  go_wp2
  go_quiet (fail)
  go_wp2
  go_quiet (fail)
  go_wp2
  go_ret2
  have f2 : Fr [t] w1 ((w1.setCell ⟨q, 3, none⟩ (.bool false)).setCell ⟨q, 5, none⟩ (.int .i64 (did + 1))) o1 o1 := ((Fr.refl _ _ _).setCell (by simp [HO1.out]) _).setCell (by simp [HO1.out]) _
  have b2 := ((HB1.out.set' 3 (.bool false) _ rfl).set' 5 (.int .i64 (did + 1)) _ rfl)
  have ff := (((Fr.refl [] w ow).drew.mono (ts := [t, tm, tm + 1, tm + 2]) (by simp)).trans (HF1.out.mono (ts := [t, tm, tm + 1, tm + 2]) (by simp +contextual)) (by simp)).trans f2 (by simp)
  have mm := Locl.keep IsMem.loc HM1.out f2 (by simp; omega)

  rw [HY'.out]
  refine Post.mk rfl o1 ?_ ⟨⟨HO1.out, ?_⟩, ?_⟩
  · repeat' (first | exact ff | refine Fr.drewN ?_ _ | refine Fr.drew ?_)
  · repeat' (first | exact b2 | refine Blk.drewN ?_ _ | refine Blk.drew ?_)
  · refine Locl.keep IsMem.loc mm (us := []) ?_ (by simp)
    repeat' (first | exact Fr.refl _ _ _ | refine Fr.drewN ?_ _ | refine Fr.drew ?_)

theorem pick16_calls (c n : Int) (w : World) (c0 : -9223372036854775808 ≤ c) (c1 : c < 9223372036854775808) (n0 : 0 < n) (n1 : n < 9223372036854775808) :
    Calls Try.prog 43 #[.int .i64 c, .int .i64 n] w fun e w' => e = .returned (.int .i64 (pick c n)) ∧ w = w' := by
  have hn : (n == 0) = false := by simp; omega
  have hn2 : ¬ n = 0 := by omega
  have tm : ∀ x : Int, 0 ≤ x → Int.tmod x n = x % n := fun x hx => Int.tmod_eq_emod_of_nonneg hx
  by_cases h : c < 0
  · have e : pick c n = Int.tmod (-(c + 1)) n := by unfold pick; rw [if_pos h, tm _ (by omega)]
    have := pick_range c n n0
    rw [e] at *
    go_enter Try.func43, Try.ntmps43
    go_wp2
    go_ret
    exact ⟨rfl, rfl⟩
  · have e : pick c n = Int.tmod c n := by unfold pick; rw [if_neg h, tm _ (by omega)]
    have := pick_range c n n0
    rw [e] at *
    go_enter Try.func43, Try.ntmps43
    go_wp2
    go_ret
    exact ⟨rfl, rfl⟩
theorem shown16_calls (w : World) (ow : Nat → Nat) :
    Calls Try.prog 37 #[] w fun e w' => e = .returned (.bool true) ∧ ∃ ow', Fr [] w w' ow ow' := by
  have n1 : nils 1 ≠ [] := by decide
  have n2 : (nils 1).length ≤ 8 := by decide
  have n3 : (0 : Int) ≤ 0 ∧ (0 : Int) < ((nils 1).length : Int) := by decide
  have n4 : ∀ x ∈ nils 1, x = .nilIface ∨ ∃ T v, x = .iface T v := by simp [nils]
  have n5 : busyAt (nils 1) 0 = false := by decide
  have n6 : ¬ ((0 : Int) ≤ 1 ∧ (1 : Int) < ((nils 1).length : Int)) := by decide
  have N := hid (And.intro n1 (And.intro n2 (And.intro n3 (And.intro n4 (And.intro n5 n6)))))
  clear n1 n2 n3 n4 n5 n6
  go_enter Try.func37, Try.ntmps37
  go_wp2_with fail
  go_at_call 38
  refine (schedNew_ok 1 3 6 _ [] 1 _ ow (Rd.nil 1 0 _) (by simp) (by simp) (by decide) (by decide)).mono ?_
  rintro e w1 ⟨p, pm, pr, rfl, o1, hf1, hs1, hm1, hr1⟩
  have HF1 := hid hf1
  have HS1 := hid hs1
  clear hf1 hs1 hm1 hr1
  go_wp2_with fail
  go_at_call 40
  refine (pick_idle 1 p pm pr (nils 1) 0 0 _ o1 HS1.out N.out.1 N.out.2.1 N.out.2.2.1 N.out.2.2.2.1 N.out.2.2.2.2.1).mono ?_
  rintro e w' ⟨rfl, rfl⟩
  go_wp2_with fail
  go_at_call 40
  refine (pick_none 1 p pm pr (nils 1) 0 1 _ o1 HS1.out N.out.1 N.out.2.1 N.out.2.2.2.2.2).mono ?_
  rintro e w' ⟨rfl, rfl⟩
  go_wp2_with fail
  go_at_call 41
  refine (schedMem_calls 1 p pm pr (nils 1) 0 _ o1 HS1.out).mono ?_
  rintro e w' ⟨rfl, rfl⟩
  go_wp2_with fail
  go_at_call 70
  refine (schedSource_calls 1 p pm pr (nils 1) 0 _ o1 HS1.out).mono ?_
  rintro e w' ⟨rfl, rfl⟩
  go_wp2
  go_ret
  exact ⟨rfl, o1, HF1.out⟩
end Go.Proofs.Ytkilpnfgpepfmaa
