/- hatstandlaw12.ElimNone: the walk. -/
import Derived.Test.YtkilpnfgpepfmaaNoneP
set_option linter.unusedSimpArgs false
set_option linter.unusedVariables false
set_option linter.unusedSectionVars false
open Go Go.RowKit Hat
namespace Go.Proofs.Ytkilpnfgpepfmaa
set_option maxHeartbeats 4000000
set_option maxRecDepth 100000

/-- A config's block and another one (of no owner), and a frame, on the way. -/
structure Way2 (w : World) (z : Nat → Nat) (B : Nat) (cs : Array Value) (B' : Nat) (T' : TypeId) (cs' : Array Value) (W : World) (o : Nat → Nat) : Prop where
  fr : Fr TS w W z o
  b : Blk W B 26 cs
  ob : o B = 0
  b' : Blk W B' T' cs'
  ob' : o B' = 0
theorem Way2.next {w W W' : World} {z o o' : Nat → Nat} {B : Nat} {cs : Array Value} {B' : Nat} {T' : TypeId} {cs' : Array Value} {us : List Nat} (h : Way2 w z B cs B' T' cs' W o) (hf : Fr us W W' o o') (hu : ∀ t ∈ us, t ∈ TS) :
    Way2 w z B cs B' T' cs' W' o' := by
  have h0 : ∀ x, x = 0 → x ∉ us := by
    intro x hx hm
    have := hu _ hm
    rw [hx] at this
    simp [TS] at this
  exact ⟨h.fr.trans hf hu, hf.blk h.b (h0 _ h.ob), (hf.own h.b).trans h.ob, hf.blk h.b' (h0 _ h.ob'), (hf.own h.b').trans h.ob'⟩
theorem Way2.start {w W : World} {z o : Nat → Nat} {B' : Nat} {T' : TypeId} {cs' : Array Value} (cs : Array Value) (hf : Fr TS w W z o) (hb : Blk W B' T' cs') (ho : o B' = 0) :
    Way2 w z W.heap.size cs B' T' cs' (W.alloc (.cells cs 26)) (extAll o W.heap.size 0) :=
  ⟨(hf.trans (Fr.start TS W o 0) (fun _ h => h)).alloc0 _, Blk.new _ _ _, extAll_new o (Nat.le_refl _), hb.alloc _, (extAll_old o hb.lt).trans ho⟩
theorem none_sh {w V0 w1 : World} {o1 : Nat → Nat} {B' : Nat} {T' : TypeId} {cs' : Array Value} (F0 : Fr TS w V0 (fun _ => 0) (fun _ => 0)) (hb : Blk V0 B' T' cs') (hf : Fr TS V0 w1 (fun _ => 0) o1) :
    Fr TS w w1 (fun _ => 0) o1 ∧ Blk w1 B' T' cs' ∧ o1 B' = 0 := ⟨F0.trans hf (fun _ h => h), hf.blk hb (by simp [TS]), hf.own hb⟩
theorem none_trio {w1 w2 w3 w4 : World} {o1 o2 o3 o4 : Nat → Nat} {p pm pr : Nat} {s : Trio} {r : Src} (hm : IsMem 3 pm s.2.1 w1 o1) (f2 : Fr [] w1 w2 o1 o2) (f3 : Fr [] w2 w3 o2 o3)
    (he : IsEl 1 p s.1 w3 o3) (f4 : Fr [6, 7] w3 w4 o3 o4) (hs : IsSrc 6 pr r w4 o4) (hr : r = s.2.2) : IsTrio 1 p 3 pm 6 pr s w4 o4 := sh_trio hm f2 f3 he f4 hs hr
theorem nstep_bad {n R E : Int} {push : Bool} (p pm pr : Nat) (w : World) (ow : Nat → Nat) (h : IsTrio 1 p 3 pm 6 pr (nt0 n R E push) w ow) (hb : n = 0 ∨ Pol.right ⟨R, E⟩ n = false) :
    Calls Try.prog 17 #[.pointer (some ⟨p, 0, none⟩), .pointer (some ⟨pm, 0, none⟩), .pointer (some ⟨pr, 0, none⟩)] w
      (Post [1, 1 + 1, 3, 3 + 1, 3 + 2, 6, 6 + 1] w ow (.tuple #[.int .i64 2, .int .u32 0]) (IsTrio 1 p 3 pm 6 pr (nt1 n R E push))) := by
  have h1 := trio_step 1 p 3 pm 6 pr (nt0 n R E push) w ow h (by decide) (by simp [Trio.fits, nt0, El.new])
  unfold Trio.st Trio.step at h1
  rw [none_bad hb] at h1
  exact h1
theorem nstep_bad2 {n R E : Int} {push : Bool} (p pm pr : Nat) (w : World) (ow : Nat → Nat) (h : IsTrio 1 p 3 pm 6 pr (nt1 n R E push) w ow) :
    Calls Try.prog 17 #[.pointer (some ⟨p, 0, none⟩), .pointer (some ⟨pm, 0, none⟩), .pointer (some ⟨pr, 0, none⟩)] w
      (Post [1, 1 + 1, 3, 3 + 1, 3 + 2, 6, 6 + 1] w ow (.tuple #[.int .i64 2, .int .u32 0]) (IsTrio 1 p 3 pm 6 pr (nt1 n R E push))) := by
  have h1 := trio_step 1 p 3 pm 6 pr (nt1 n R E push) w ow h (by decide) (by simp [Trio.fits, nt1, El.new])
  unfold Trio.st Trio.step at h1
  rw [none_bad2] at h1
  exact h1
theorem nstep_good {n R E : Int} {push : Bool} (p pm pr : Nat) (w : World) (ow : Nat → Nat) (h : IsTrio 1 p 3 pm 6 pr (nt0 n R E push) w ow) (hg : (nt0 n R E push).st = 0) :
    Calls Try.prog 17 #[.pointer (some ⟨p, 0, none⟩), .pointer (some ⟨pm, 0, none⟩), .pointer (some ⟨pr, 0, none⟩)] w
      (Post [1, 1 + 1, 3, 3 + 1, 3 + 2, 6, 6 + 1] w ow (.tuple #[.int .i64 0, .int .u32 ((nt0 n R E push).1.step (nt0 n R E push).2.1 (nt0 n R E push).2.2).1.2]) (IsTrio 1 p 3 pm 6 pr (nt0 n R E push).step)) := by
  have h1 := trio_step 1 p 3 pm 6 pr (nt0 n R E push) w ow h (by decide) (by simp [Trio.fits, nt0, El.new])
  rw [hg] at h1
  exact h1
theorem eql_state (R E : Int) (w : World) : (binOp .eql 34 (.agg #[.int .i64 R, .int .i64 E]) (.agg #[.int .i64 R, .int .i64 E])).run Try.prog w = .ok (.bool true) w := by
  simp [go_sem]

theorem none_v0 (slots n R E : Int) (push : Bool) (w : World) (s0 : -9223372036854775808 ≤ slots) (s1 : slots < 9223372036854775808) (r0 : -9223372036854775808 ≤ R) (r1 : R < 9223372036854775808)
    (hn : pick slots 17 = n) (a1 : decide (0 < n) = true) (a2 : decide (1 ≤ R) = true) (a3 : decide (R ≤ n) = true) (a4 : decide (0 ≤ E) = true) (a5 : decide (E ≤ 6) = true) :
    Calls Try.prog 6 #[.int .i64 slots, .agg #[.int .i64 R, .int .i64 E], .bool push] w fun e w' => e = .returned (.bool true) ∧ Below w.heap.size w w' := by
  have hn0 : 0 ≤ n ∧ n < 17 := by have := pick_range slots 17 (by decide); omega
  have Hgood := hid (none_good (push := push) (by simpa using a2) (by simpa using a3) (by omega) (by simpa using a4) (by simpa using a5))
  have Hn := hid hn
  clear hn
  go_enter Try.func6, Try.ntmps6
  go_upto_region 1 with fail
  have F0 := hid ((Fr.refl TS w (fun _ => 0)).alloc0 (.cells #[.int .i64 R, .int .i64 E] 34))
  have B0 := hid (Blk.new w 34 #[.int .i64 R, .int .i64 E])
  generalize w.alloc (.cells #[.int .i64 R, .int .i64 E] 34) = V0 at *
  generalize hBs : w.heap.size = Bs at F0 B0 ⊢
  go_upto_region 4 with (first
    | (go_at_call 12
       refine (shown_calls _ (fun _ => 0)).mono ?_
       rintro e w1 ⟨rfl, o1, hf1⟩
       have Z1 := hid (none_sh F0.out B0.out hf1)
       clear hf1)
    | (go_at_call 21
       refine (pick_calls slots 17 _ s0 s1 (by decide) (by decide)).mono ?_
       rintro e w' ⟨rfl, rfl⟩
       rw [Hn.out]))
  have W0 := Way2.start #[.int .i64 3, .int .i64 n, .int .i64 0, .int .u32 0] Z1.out.1 Z1.out.2.1 Z1.out.2.2
  have HW0 := hid W0
  have b0 := W0.b.cell
  have c0 := W0.b'.cell
  clear W0 Z1 F0 B0
  generalize w1.alloc (.cells #[.int .i64 3, .int .i64 n, .int .i64 0, .int .u32 0] 26) = V1 at *
  generalize w1.heap.size = B at *
  generalize extAll o1 B 0 = o0 at *
  go_wp2_with (first
    | (go_at_call 13
       refine (begun_calls (cN n) (cN_ok hn0.1 (by omega)) (by simp [cN]) (by simp [cN]) 3 _ o0).mono ?_
       rintro e w1 ⟨pm, rfl, o1, hf1, hm1⟩
       have W1 := HW0.out.next hf1 (by simp)
       have b1 := W1.b.cell
       have c1 := W1.b'.cell
       have HW1 := hid W1
       have HM1 := hid hm1
       clear hf1 W1 hm1)
    | (go_at_call 14
       refine (snew_calls 6 _ o1).mono ?_
       rintro e w2 ⟨pr, rfl, o2, hf2, hs2⟩
       have W2 := HW1.out.next hf2 (by simp)
       have b2 := W2.b.cell
       have c2 := W2.b'.cell
       have HW2 := hid W2
       have HS2 := hid hs2
       have HF2 := hid hf2
       clear hf2 W2 hs2)
    | (go_at_call 15
       refine (elnew_calls 1 (cN n) ⟨R, E⟩ push 1 3 2 _ o2 ⟨(by simp [El.new, cN]), (by simp [El.new, cN]), r1, (by simp [El.new]), (by simp [El.new]), (by simp [El.new]), (by simp [El.new]), (by simp [El.new])⟩).mono ?_
       rintro e w3 ⟨p, rfl, o3, hf3, he3⟩
       have W3 := HW2.out.next hf3 (by simp)
       have c3 := W3.b'.cell
       have HW3 := hid W3
       have HE3 := hid he3
       have HF3 := hid hf3
       have HS3 := hid (Locl.keep IsSrc.loc HS2.out hf3 (by simp))
       clear hf3 W3 he3)
    | (go_at_call 23
       refine (add_calls 6 pr ⟨0, []⟩ 3 _ o3 HS3.out (by decide) (by decide) (by decide)).mono ?_
       rintro e w4 ⟨rfl, o4, hf4, hs4⟩
       have W4 := HW3.out.next hf4 (by simp [TS])
       have c4 := W4.b'.cell
       have HW4 := hid W4
       have HT4 := hid (none_trio (s := nt0 n R E push) HM1.out HF2.out HF3.out HE3.out hf4 hs4 rfl)
       rw [show (Src.add ⟨0, []⟩ 3).1 = 0 from rfl]
       clear hf4 W4 hs4)
    | (go_at_call 17
       refine (nstep_good p pm pr _ o4 HT4.out Hgood.out.1).mono ?_
       rintro e w5 ⟨rfl, o5, hf5, ht5⟩
       have W5 := HW4.out.next hf5 (by simp [TS])
       have c5 := W5.b'.cell
       have HW5 := hid W5
       have HT5 := hid ht5
       clear hf5 W5 ht5)
    | (go_at_call 28
       refine (count_calls 3 pm _ _ o5 HT5.out.mem).mono ?_
       rintro e w' ⟨rfl, rfl⟩
       rw [Hgood.out.2.1])
    | (go_at_call 25
       refine (left_calls 6 pr _ _ o5 HT5.out.src).mono ?_
       rintro e w' ⟨rfl, rfl⟩
       rw [Hgood.out.2.2]))
  go_ret
  exact ⟨rfl, HW5.out.fr.below (by simp [TS])⟩

theorem none_v1 (slots n R E : Int) (push : Bool) (w : World) (s0 : -9223372036854775808 ≤ slots) (s1 : slots < 9223372036854775808) (r0 : -9223372036854775808 ≤ R) (r1 : R < 9223372036854775808)
    (hn : pick slots 17 = n) (a1 : decide (0 < n) = false) :
    Calls Try.prog 6 #[.int .i64 slots, .agg #[.int .i64 R, .int .i64 E], .bool push] w fun e w' => e = .returned (.bool true) ∧ Below w.heap.size w w' := by
  have hn0 : 0 ≤ n ∧ n < 17 := by have := pick_range slots 17 (by decide); omega
  have Hbad : Hid (n = 0 ∨ Pol.right ⟨R, E⟩ n = false) := hid (.inl (by simp at a1; omega))
  have Hn := hid hn
  clear hn
  go_enter Try.func6, Try.ntmps6
  go_upto_region 1 with fail
  have F0 := hid ((Fr.refl TS w (fun _ => 0)).alloc0 (.cells #[.int .i64 R, .int .i64 E] 34))
  have B0 := hid (Blk.new w 34 #[.int .i64 R, .int .i64 E])
  generalize w.alloc (.cells #[.int .i64 R, .int .i64 E] 34) = V0 at *
  generalize hBs : w.heap.size = Bs at F0 B0 ⊢
  go_upto_region 4 with (first
    | (go_at_call 12
       refine (shown_calls _ (fun _ => 0)).mono ?_
       rintro e w1 ⟨rfl, o1, hf1⟩
       have Z1 := hid (none_sh F0.out B0.out hf1)
       clear hf1)
    | (go_at_call 21
       refine (pick_calls slots 17 _ s0 s1 (by decide) (by decide)).mono ?_
       rintro e w' ⟨rfl, rfl⟩
       rw [Hn.out]))
  have W0 := Way2.start #[.int .i64 3, .int .i64 n, .int .i64 0, .int .u32 0] Z1.out.1 Z1.out.2.1 Z1.out.2.2
  have HW0 := hid W0
  have b0 := W0.b.cell
  have c0 := W0.b'.cell
  clear W0 Z1 F0 B0
  generalize w1.alloc (.cells #[.int .i64 3, .int .i64 n, .int .i64 0, .int .u32 0] 26) = V1 at *
  generalize w1.heap.size = B at *
  generalize extAll o1 B 0 = o0 at *
  go_wp2_with (first
    | (go_at_call 13
       refine (begun_calls (cN n) (cN_ok hn0.1 (by omega)) (by simp [cN]) (by simp [cN]) 3 _ o0).mono ?_
       rintro e w1 ⟨pm, rfl, o1, hf1, hm1⟩
       have W1 := HW0.out.next hf1 (by simp)
       have b1 := W1.b.cell
       have c1 := W1.b'.cell
       have HW1 := hid W1
       have HM1 := hid hm1
       clear hf1 W1 hm1)
    | (go_at_call 14
       refine (snew_calls 6 _ o1).mono ?_
       rintro e w2 ⟨pr, rfl, o2, hf2, hs2⟩
       have W2 := HW1.out.next hf2 (by simp)
       have b2 := W2.b.cell
       have c2 := W2.b'.cell
       have HW2 := hid W2
       have HS2 := hid hs2
       have HF2 := hid hf2
       clear hf2 W2 hs2)
    | (go_at_call 15
       refine (elnew_calls 1 (cN n) ⟨R, E⟩ push 1 3 2 _ o2 ⟨(by simp [El.new, cN]), (by simp [El.new, cN]), r1, (by simp [El.new]), (by simp [El.new]), (by simp [El.new]), (by simp [El.new]), (by simp [El.new])⟩).mono ?_
       rintro e w3 ⟨p, rfl, o3, hf3, he3⟩
       have W3 := HW2.out.next hf3 (by simp)
       have c3 := W3.b'.cell
       have HW3 := hid W3
       have HE3 := hid he3
       have HF3 := hid hf3
       have HS3 := hid (Locl.keep IsSrc.loc HS2.out hf3 (by simp))
       clear hf3 W3 he3)
    | (go_at_call 23
       refine (add_calls 6 pr ⟨0, []⟩ 3 _ o3 HS3.out (by decide) (by decide) (by decide)).mono ?_
       rintro e w4 ⟨rfl, o4, hf4, hs4⟩
       have W4 := HW3.out.next hf4 (by simp [TS])
       have c4 := W4.b'.cell
       have HW4 := hid W4
       have HT4 := hid (none_trio (s := nt0 n R E push) HM1.out HF2.out HF3.out HE3.out hf4 hs4 rfl)
       rw [show (Src.add ⟨0, []⟩ 3).1 = 0 from rfl]
       clear hf4 W4 hs4)
    | (go_at_call 17
       refine (nstep_bad p pm pr _ o4 HT4.out Hbad.out).mono ?_
       rintro e w5 ⟨rfl, o5, hf5, ht5⟩
       have W5 := HW4.out.next hf5 (by simp [TS])
       have c5 := W5.b'.cell
       have HW5 := hid W5
       have HT5 := hid ht5
       clear hf5 W5 ht5)
    | (go_at_call 17
       refine (nstep_bad2 p pm pr _ o5 HT5.out).mono ?_
       rintro e w6 ⟨rfl, o6, hf6, ht6⟩
       have W6 := HW5.out.next hf6 (by simp [TS])
       have c6 := W6.b'.cell
       have HW6 := hid W6
       have HT6 := hid ht6
       clear hf6 W6 ht6))
  have T6d := hid (IsTrio.loc (by decide) HT6.out (us := []) ((Fr.refl [] w6 o6).drew) (by simp))
  have hagg : ∀ w, (binOp .eql 34 (.agg #[.int .i64 R, .int .i64 E]) (.agg #[.int .i64 R, .int .i64 E])).run Try.prog w = .ok (.bool true) w := eql_state R E
  have W6d := HW6.out.next (us := []) ((Fr.refl [] w6 o6).drew) (by simp)
  have HW6d := hid W6d
  clear W6d b0 c0 HW0 b1 c1 HW1 HM1 b2 c2 HW2 HS2 HF2 c3 HW3 HE3 HF3 HS3 c4 HW4 HT4 c5 HW5 HT5
  (first
    | go_region_held3 (fun w' => ∀ i, w'.cell? ⟨Bs, i, none⟩ = (#[.int .i64 R, .int .i64 E] : Array Value)[i]?)
        (first
          | exact c6
          | exact c7
          | exact c8
          | go_keep)
        ((first
          | (go_at_call 28
             refine (count_calls 3 pm _ _ o6 T6d.out.mem).mono ?_
             rintro e w' ⟨rfl, rfl⟩
             rw [show ((nt1 n R E push).2.1.ns.length : Int) = 0 from rfl])
          | (go_at_call 25
             refine (left_calls 6 pr _ _ o6 T6d.out.src).mono ?_
             rintro e w' ⟨rfl, rfl⟩
             rw [show ((nt1 n R E push).2.2.draws.length : Int) = 1 from rfl])
          | (go_at_call 20
             refine (el_state 1 p _ _ o6 T6d.out.el).mono ?_
             rintro e w7 ⟨rfl, hb7⟩
             rw [show (nt1 n R E push).1.s.range = R from rfl, show (nt1 n R E push).1.s.exp = E from rfl]
             have W7 := HW6d.out.next (us := []) (Fr.of_below hb7 [] o6) (by simp)
             have c7 := W7.b'.cell
             have HW7 := hid W7
             have T7 := hid (IsTrio.loc (by decide) T6d.out (us := []) (Fr.of_below hb7 [] o6) (by simp))
             clear hb7 W7)
          | (go_at_call 22
             refine (el_place 1 p _ _ o6 T7.out.el).mono ?_
             rintro e w' ⟨rfl, rfl⟩
             rw [show (nt1 n R E push).1.place = -1 from rfl])
          | (go_at_call 18
             refine (words_calls 8 3 pm _ _ o6 T7.out.mem).mono ?_
             rintro e w8 ⟨v8, rfl, o8, hf8, hs8⟩
             obtain ⟨a8, n8, k8, rfl, hl8⟩ := hs8.form
             have W8 := HW7.out.next hf8 (by simp)
             have c8 := W8.b'.cell
             have HW8 := hid W8
             have T8 := hid (IsTrio.loc (by decide) T7.out hf8 (by simp))
             have HS8 := hid hs8
             clear hf8 hs8 W8)
          | (go_at_call 27
             refine (el_met 1 p 8 _ _ _ _ o8 T8.out.el HS8.out (by simp [nt1, El.new])).mono ?_
             rintro e w9 ⟨rfl, k9, rfl⟩
             rw [show (nt1 n R E push).1.met (nt1 n R E push).2.1.ws = false from rfl])))
    | fail "held3")
  go_wp2
  go_ret
  exact ⟨rfl, ((HW8.out.fr).drewN k9).below (by simp [TS])⟩
end Go.Proofs.Ytkilpnfgpepfmaa
