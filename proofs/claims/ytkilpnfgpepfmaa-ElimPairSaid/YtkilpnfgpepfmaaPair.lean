/- hatstandlaw12.ElimPair: the walk. -/
import Derived.Test.YtkilpnfgpepfmaaPairP
import Derived.Test.YtkilpnfgpepfmaaNone
set_option linter.unusedSimpArgs false
set_option linter.unusedVariables false
set_option linter.unusedSectionVars false
open Go Go.RowKit Hat
namespace Go.Proofs.Ytkilpnfgpepfmaa
set_option maxHeartbeats 4000000
set_option maxRecDepth 100000

def TS2 : List Nat := [1, 2, 3, 4, 5, 6, 7, 8, 9, 10, 11]
/-- A config's block, a frame, two visits, a memory and a source, on the way. -/
structure Go4 (w : World) (z : Nat → Nat) (B : Nat) (cs : Array Value) (pa pb pm pr : Nat) (s : Trio) (b : El) (W : World) (o : Nat → Nat) : Prop where
  fr : Fr TS2 w W z o
  blk : Blk W B 26 cs
  ob : o B = 0
  ea : IsEl 1 pa s.1 W o
  eb : IsEl 3 pb b W o
  mem : IsMem 6 pm s.2.1 W o
  src : IsSrc 9 pr s.2.2 W o
theorem Go4.next {w W W' : World} {z o o' : Nat → Nat} {B pa pb pm pr : Nat} {cs : Array Value} {s : Trio} {b : El} (h : Go4 w z B cs pa pb pm pr s b W o) (hf : Fr [] W W' o o') : Go4 w z B cs pa pb pm pr s b W' o' :=
  ⟨h.fr.trans hf (by simp), hf.blk h.blk (by simp), (hf.own h.blk).trans h.ob, Locl.keep IsEl.loc h.ea hf (by simp), Locl.keep IsEl.loc h.eb hf (by simp), Locl.keep IsMem.loc h.mem hf (by simp), Locl.keep IsSrc.loc h.src hf (by simp)⟩
theorem Go4.stepA {w W : World} {z o : Nat → Nat} {B pa pb pm pr : Nat} {cs : Array Value} {s : Trio} {b : El} (h : Go4 w z B cs pa pb pm pr s b W o) (hf : s.fits = true) {st i : Int} (hs : (s.1.step s.2.1 s.2.2).1 = (st, i)) :
    Calls Try.prog 17 #[.pointer (some ⟨pa, 0, none⟩), .pointer (some ⟨pm, 0, none⟩), .pointer (some ⟨pr, 0, none⟩)] W
      fun e W' => e = .returned (.tuple #[.int .i64 st, .int .u32 i]) ∧ ∃ o', Hid (Go4 w z B cs pa pb pm pr s.step b W' o') := by
  have hh := Trio.fits_iff hf
  refine (el_step 1 pa 6 pm 9 pr s.1 s.2.1 s.2.2 W o h.ea h.mem h.src (by decide) hh.1 hh.2).mono ?_
  rintro e w' ⟨rfl, ow', hf', h1, h2, h3⟩
  rw [hs]
  refine ⟨rfl, ow', hid ⟨h.fr.trans hf' (by simp [TS2]), hf'.blk h.blk (by rw [h.ob]; simp), (hf'.own h.blk).trans h.ob, h1, Locl.keep IsEl.loc h.eb hf' (by simp), h2, h3⟩⟩
theorem Go4.stepB {w W : World} {z o : Nat → Nat} {B pa pb pm pr : Nat} {cs : Array Value} {s : Trio} {b : El} (h : Go4 w z B cs pa pb pm pr s b W o) (hf : Trio.fits (b, s.2) = true) {st i : Int} (hs : (b.step s.2.1 s.2.2).1 = (st, i)) :
    Calls Try.prog 17 #[.pointer (some ⟨pb, 0, none⟩), .pointer (some ⟨pm, 0, none⟩), .pointer (some ⟨pr, 0, none⟩)] W
      fun e W' => e = .returned (.tuple #[.int .i64 st, .int .u32 i]) ∧ ∃ o', Hid (Go4 w z B cs pa pb pm pr (s.1, (Trio.step (b, s.2)).2) (Trio.step (b, s.2)).1 W' o') := by
  have hh := Trio.fits_iff hf
  refine (el_step 3 pb 6 pm 9 pr b s.2.1 s.2.2 W o h.eb h.mem h.src (by decide) hh.1 hh.2).mono ?_
  rintro e w' ⟨rfl, ow', hf', h1, h2, h3⟩
  rw [hs]
  refine ⟨rfl, ow', hid ⟨h.fr.trans hf' (by simp [TS2]), hf'.blk h.blk (by rw [h.ob]; simp), (hf'.own h.blk).trans h.ob, Locl.keep IsEl.loc h.ea hf' (by simp), h1, h2, h3⟩⟩
theorem Go4.start {w w0 w1 w2 w3 w4 w5 w6 : World} {z o0 o1 o2 o3 o4 o5 o6 : Nat → Nat} {B pa pb pm pr : Nat} {cs : Array Value} {a b : El} {m : Mem} {r2 : Src}
    (f0 : Fr TS2 w w0 z o0) (hb : Blk w0 B 26 cs) (ho : o0 B = 0) (f1 : Fr [] w0 w1 o0 o1) (hm : IsMem 6 pm m w1 o1) (f2 : Fr [] w1 w2 o1 o2) (f3 : Fr [] w2 w3 o2 o3) (ha : IsEl 1 pa a w3 o3)
    (f4 : Fr [] w3 w4 o3 o4) (hbb : IsEl 3 pb b w4 o4) (f5 : Fr [9, 10] w4 w5 o4 o5) (f6 : Fr [9, 10] w5 w6 o5 o6) (hs : IsSrc 9 pr r2 w6 o6) : Go4 w z B cs pa pb pm pr (a, m, r2) b w6 o6 := by
  have g2 := f2.trans f3 (by simp)
  have g4 := g2.trans f4 (by simp)
  have g5 := (f5.trans f6 (fun _ h => h))
  have gb := f1.trans g4 (by simp)
  have gm : Fr [9, 10] w1 w6 o1 o6 := (g4.mono (ts := [9, 10]) (by simp)).trans g5 (fun _ h => h)
  have ga : Fr [9, 10] w3 w6 o3 o6 := (f4.mono (ts := [9, 10]) (by simp)).trans g5 (fun _ h => h)
  have b4 := gb.blk hb (by simp)
  have k4 := (gb.own hb).trans ho
  refine ⟨?_, g5.blk b4 (by rw [k4]; simp), (g5.own b4).trans k4, Locl.keep IsEl.loc ha ga (by simp), Locl.keep IsEl.loc hbb g5 (by simp), Locl.keep IsMem.loc hm gm (by simp), hs⟩
  exact (f0.trans gb (by simp)).trans g5 (by simp [TS2])

theorem add_k {K : Nat} (h : K < 64) (l : List Int) : (Src.add ⟨0, l⟩ K).1 = 0 ∧ (Src.add ⟨0, l⟩ K).2 = ⟨0, l ++ [(K : Int)]⟩ := by
  unfold Src.add
  rw [if_neg (by omega)]
  exact ⟨rfl, rfl⟩
theorem src_keep {w1 w2 w3 : World} {o1 o2 o3 : Nat → Nat} {p : Nat} {r : Src} (h : IsSrc 9 p r w1 o1) (f1 : Fr [] w1 w2 o1 o2) (f2 : Fr [] w2 w3 o2 o3) : IsSrc 9 p r w3 o3 :=
  Locl.keep IsSrc.loc (Locl.keep IsSrc.loc h f1 (by simp)) f2 (by simp)
theorem meas_lt {k n : Nat} (h : k < n) : n - (intOf (.int .i64 ((k : Int) + 1))).toNat < n - (intOf (.int .i64 (k : Int))).toNat := by simp [intOf]; omega

theorem pair_walk_t (x0 x1 : Int) (x3 x4 n1 n k nd q : Int) (w : World) (s0 : -9223372036854775808 ≤ x0) (s0' : x0 < 9223372036854775808) (s1 : -9223372036854775808 ≤ x1) (s1' : x1 < 9223372036854775808)
    (s3 : 0 ≤ x3) (s3' : x3 < 4294967296) (s4 : -9223372036854775808 ≤ x4) (s4' : x4 < 9223372036854775808)
    (hn1 : pick x0 16 = n1) (hn : 1 + n1 = n) (hk : pick x1 n = k) (hnd : x3 % 1073741824 = nd) (hq : pick x4 30 = q) :
    Calls Try.prog 5 #[.int .i64 x0, .int .i64 x1, .bool true, .int .u32 x3, .int .i64 x4] w fun e w' => e = .returned (.bool true) ∧ Below w.heap.size w w' := by
  have p0 : 0 ≤ n1 ∧ n1 < 16 := by have := pick_range x0 16 (by decide); omega
  have n0 : 1 ≤ n ∧ n ≤ 16 := by omega
  have Hn1 := hid hn1
  clear hn1
  have k0 : 0 ≤ k ∧ k < n := by have := pick_range x1 n (by omega); omega
  have q0 : 0 ≤ q ∧ q < 30 := by have := pick_range x4 30 (by decide); omega
  have d0 : 0 ≤ nd ∧ nd < 1073741824 := by omega
  obtain ⟨N, rfl⟩ := Int.eq_ofNat_of_zero_le (show 0 ≤ n by omega)
  obtain ⟨K, rfl⟩ := Int.eq_ofNat_of_zero_le (show 0 ≤ k by omega)
  obtain ⟨Q, rfl⟩ := Int.eq_ofNat_of_zero_le (show 0 ≤ q by omega)
  have HL := hid (pairLaw (n := N) (k := K) (pf := true) (node := nd) (by omega) (by omega) d0.1 d0.2 Q (by omega))
  have HF := fun j => hid (pa_fits (n := N) (k := K) (pf := true) (node := nd) (by omega) (by omega) j)
  have HWA := hid (show ElWf (El.new (cN N) ⟨N, 3⟩ true nd 8 100) from ⟨by simp [El.new, cN], by simp [El.new, cN], by simp [El.new]; omega, by simp [El.new]; omega, by simp [El.new]; omega, by simp [El.new], by simp [El.new], by simp [El.new]⟩)
  have HWB := hid (show ElWf (El.new (cN N) ⟨N, 2⟩ (!true) nd 8 100) from ⟨by simp [El.new, cN], by simp [El.new, cN], by simp [El.new]; omega, by simp [El.new]; omega, by simp [El.new]; omega, by simp [El.new], by simp [El.new], by simp [El.new]⟩)
  have Hnp := hid (show 0 < (N : Int) ∧ (N : Int) < 9223372036854775808 by omega)
  have Hkp := hid (show 0 ≤ (K : Int) ∧ (K : Int) < 18446744073709551616 ∧ K < 64 by omega)
  have Hok := hid (cN_ok (n := (N : Int)) (by omega) (by omega))
  have Hn := hid hn
  have Hk := hid hk
  have Hd := hid hnd
  have Hq := hid hq
  clear hn hk hnd hq
  go_enter Try.func5, Try.ntmps5
  go_upto_region 2 with (first
    | (go_at_call 12
       refine (shown_calls _ (fun _ => 0)).mono ?_
       rintro e w1 ⟨rfl, o1, hf1⟩
       have F0 := hid hf1
       clear hf1))
  go_upto_region 3 with (first
    | (go_at_call 21
       refine (pick_calls x0 16 _ s0 s0' (by decide) (by decide)).mono ?_
       rintro e w' ⟨rfl, rfl⟩
       rw [Hn1.out]))
  rw [Hn.out]
  go_upto_region 4 with fail
  have W0 := Way.start w1 o1 #[.int .i64 3, .int .i64 N, .int .i64 0, .int .u32 0]
  have HB0 : Hid (Fr TS2 w _ (fun _ => 0) _) := hid ((F0.out.trans W0.fr (fun _ h => h)).mono (by simp [TS, TS2]))
  have HB1 := hid W0.b
  have HB2 := hid W0.ob
  have b0 := W0.b.cell
  clear W0 F0
  generalize w1.alloc (.cells #[.int .i64 3, .int .i64 N, .int .i64 0, .int .u32 0] 26) = V1 at *
  generalize w1.heap.size = B at *
  generalize extAll o1 B 0 = o0 at *
  go_upto_region 7 with (first
    | (go_at_call 13
       refine (begun_calls (cN N) Hok.out (by simp [cN]) (by simp [cN]) 6 _ o0).mono ?_
       rintro e w1 ⟨pm, rfl, o1, hf1, hm1⟩
       have HF1 := hid hf1
       have HM1 := hid hm1
       have b1 := (hf1.blk HB1.out (by simp)).cell
       have HB3 := hid (hf1.blk HB1.out (by simp))
       clear hf1 hm1)
    | (go_at_call 14
       refine (snew_calls 9 _ o1).mono ?_
       rintro e w2 ⟨pr, rfl, o2, hf2, hs2⟩
       have HF2 := hid hf2
       have HS2 := hid hs2
       have b2 := (hf2.blk HB3.out (by simp)).cell
       have HB4 := hid (hf2.blk HB3.out (by simp))
       clear hf2 hs2))
  rw [Hd.out]
  go_upto_region 11 with (first
    | (go_at_call 15
       refine (elnew_calls 3 (cN N) ⟨N, 2⟩ (!true) nd 8 100 _ o3 HWB.out).mono ?_
       rintro e w4 ⟨pb, rfl, o4, hf4, he4⟩
       have HF4 := hid hf4
       have HE4 := hid he4
       clear hf4 he4)
    | (go_at_call 15
       refine (elnew_calls 1 (cN N) ⟨N, 3⟩ true nd 8 100 _ o2 HWA.out).mono ?_
       rintro e w3 ⟨pa, rfl, o3, hf3, he3⟩
       have HF3 := hid hf3
       have HE3 := hid he3
       have b3 := (hf3.blk HB4.out (by simp)).cell
       clear hf3 he3))
  have HS4 := hid (src_keep HS2.out HF3.out HF4.out)
  clear b0 b1 b2 b3 HB3 HB4
  go_upto_region 14 with (first
    | (go_at_call 21
       refine (pick_calls x1 N _ s1 s1' Hnp.out.1 Hnp.out.2).mono ?_
       rintro e w' ⟨rfl, rfl⟩
       rw [Hk.out])
    | (go_at_call 23
       refine (add_calls 9 pr ⟨0, [(K : Int)]⟩ K _ o5 HS5.out Hkp.out.1 Hkp.out.2.1 (by simp)).mono ?_
       rintro e w6 ⟨rfl, o6, hf6, hs6⟩
       rw [(add_k Hkp.out.2.2 _).1]
       rw [(add_k Hkp.out.2.2 _).2] at hs6
       have HF6 := hid hf6
       have HS6 := hid hs6
       clear hf6 hs6)
    | (go_at_call 23
       refine (add_calls 9 pr ⟨0, []⟩ K _ o4 HS4.out Hkp.out.1 Hkp.out.2.1 (by simp)).mono ?_
       rintro e w5 ⟨rfl, o5, hf5, hs5⟩
       rw [(add_k Hkp.out.2.2 _).1]
       rw [(add_k Hkp.out.2.2 _).2] at hs5
       have HF5 := hid hf5
       have HS5 := hid hs5
       clear hf5 hs5))
  have HG0 : Hid (Go4 w (fun _ => 0) B #[.int .i64 3, .int .i64 N, .int .i64 0, .int .u32 0] pa pb pm pr ((pa0 N K true nd).iter 0) (pb0 N true nd) w6 o6) :=
    hid (Go4.start HB0.out HB1.out HB2.out HF1.out HM1.out HF2.out HF3.out HE3.out HF4.out HE4.out HF5.out HF6.out HS6.out)
  clear HB0 HB1 HB2 HF1 HM1 HF2 HF3 HE3 HF4 HE4 HF5 HF6 HS6 HS2 HS4 HS5
  go_wp2_with fail
  go_loopw [20, 21, 22] (fun x _ _ wr => ∃ (j : Nat) (o : Nat → Nat), j ≤ 2 + Q ∧ x = .int .i64 (j : Int) ∧ Hid (Go4 w (fun _ => 0) B #[.int .i64 3, .int .i64 N, .int .i64 0, .int .u32 0] pa pb pm pr ((pa0 N K true nd).iter j) (pb0 N true nd) wr o))
    (fun x _ _ _ => (2 + Q) - (intOf x).toNat)
  case atStart => exact ⟨0, o6, by omega, by simp, HG0⟩
  case round =>
    clear HG0
    obtain ⟨j, o, hj, rfl, HG⟩ := hrel
    by_cases hlt : j < 2 + Q
    · have hd1 : decide ((j : Int) < 2 + (Q : Int)) = true := by simp; omega
      have hj1 : j + 1 ≤ 2 + Q := hlt
      have hf := (HF j).out (by omega)
      have hf1 : (((pa0 N K true nd).iter j).1.step ((pa0 N K true nd).iter j).2.1 ((pa0 N K true nd).iter j).2.2).1 = (0, (((pa0 N K true nd).iter j).1.step ((pa0 N K true nd).iter j).2.1 ((pa0 N K true nd).iter j).2.2).1.2) := Prod.ext hf.1 rfl
      have Hf := hid hf
      have Hf1 := hid hf1
      clear hf hf1
      go_wp2_with (first
        | (go_at_call 21
           refine (pick_calls x4 30 _ s4 s4' (by decide) (by decide)).mono ?_
           rintro e w' ⟨rfl, rfl⟩
           rw [Hq.out])
        | (go_at_call 17
           refine (HG.out.stepA Hf.out.2 Hf1.out).mono ?_
           rintro e w7 ⟨rfl, o7, HG7⟩))
      go_roundw
      case rel => exact ⟨j + 1, o7, hj1, by go_num, HG7⟩
      case measure => exact meas_lt hlt
    · have hj2 : j = 2 + Q := Nat.le_antisymm hj (Nat.le_of_not_lt hlt)
      have hd1 : decide ((j : Int) < 2 + (Q : Int)) = false := by simp; omega
      have HG0 : Hid (Go4 w (fun _ => 0) B #[.int .i64 3, .int .i64 N, .int .i64 0, .int .u32 0] pa pb pm pr (psS N K true nd Q) (pb0 N true nd) wr o) := by rw [hj2] at HG; exact HG
      have hagg : ∀ w, (binOp .eql 34 (.agg #[.int .i64 N, .int .i64 0]) (.agg #[.int .i64 N, .int .i64 0])).run Try.prog w = .ok (.bool true) w := eql_state N 0
      clear HG HF hj hlt hj2
      have hs2 : ((ptS N K true nd Q).1.step (ptS N K true nd Q).2.1 (ptS N K true nd Q).2.2).1 = (1, nd) := HL.out.s2
      have hs4 : ((pvS N K true nd Q).1.step (pvS N K true nd Q).2.1 (pvS N K true nd Q).2.2).1 = (1, 0) := HL.out.s4
      have Hs2 := hid hs2
      have Hs4 := hid hs4
      clear hs2 hs4
      go_wp2_with (first
        | (go_at_call 21
           refine (pick_calls x4 30 _ s4 s4' (by decide) (by decide)).mono ?_
           rintro e w' ⟨rfl, rfl⟩
           rw [Hq.out]))
      go_at_call 17
      refine (HG0.out.stepB HL.out.f1 HL.out.s1).mono ?_
      rintro e w7 ⟨rfl, o7, HG7'⟩
      have HG7 : Hid (Go4 w (fun _ => 0) B #[.int .i64 3, .int .i64 N, .int .i64 0, .int .u32 0] pa pb pm pr ((psS N K true nd Q).1, (ptS N K true nd Q).2) (ptS N K true nd Q).1 w7 o7) := HG7'
      clear HG0 HG7'
      go_wp2_with fail
      go_at_call 17
      refine (HG7.out.stepB HL.out.f2 Hs2.out).mono ?_
      rintro e w8 ⟨rfl, o8, HG8'⟩
      have HG8 : Hid (Go4 w (fun _ => 0) B #[.int .i64 3, .int .i64 N, .int .i64 0, .int .u32 0] pa pb pm pr ((psS N K true nd Q).1, (puS N K true nd Q).2) (puS N K true nd Q).1 w8 o8) := HG8'
      clear HG7 HG8'
      go_wp2_with fail
      go_at_call 18
      refine (words_calls 11 6 pm _ _ o8 HG8.out.mem).mono ?_
      rintro e wa1 ⟨va1, rfl, oa1, hfa1, hsa1⟩
      have HGa1 := hid (HG8.out.next hfa1)
      obtain ⟨aa1, na1, ka1, rfl, hla1⟩ := hsa1.form
      have HSa1 := hid hsa1
      clear hfa1 hsa1 hla1
      go_wp2_with fail
      go_at_call 27
      refine (el_met 1 pa 11 _ _ _ _ oa1 HGa1.out.ea HSa1.out HL.out.ea).mono ?_
      rintro e wb1 ⟨rfl, ma1, rfl⟩
      rw [HL.out.ma]
      have HGb1 := hid (HGa1.out.next (Fr.drewN (Fr.refl [] _ _) ma1))
      clear HGa1 HSa1
      go_wp2_with fail
      go_at_call 18
      refine (words_calls 11 6 pm _ _ oa1 HGb1.out.mem).mono ?_
      rintro e wa2 ⟨va2, rfl, oa2, hfa2, hsa2⟩
      have HGa2 := hid (HGb1.out.next hfa2)
      obtain ⟨aa2, na2, ka2, rfl, hla2⟩ := hsa2.form
      have HSa2 := hid hsa2
      clear hfa2 hsa2 hla2
      go_wp2_with fail
      go_at_call 27
      refine (el_met 3 pb 11 _ _ _ _ oa2 HGa2.out.eb HSa2.out HL.out.eb).mono ?_
      rintro e wb2 ⟨rfl, ma2, rfl⟩
      rw [HL.out.mb]
      have HGb2 := hid (HGa2.out.next (Fr.drewN (Fr.refl [] _ _) ma2))
      clear HGa2 HSa2
      go_wp2_with fail
      go_at_call 17
      refine (HGb2.out.stepA HL.out.f3 HL.out.s3).mono ?_
      rintro e w9 ⟨rfl, o9, HG9'⟩
      have HG9 : Hid (Go4 w (fun _ => 0) B #[.int .i64 3, .int .i64 N, .int .i64 0, .int .u32 0] pa pb pm pr (pvS N K true nd Q) (puS N K true nd Q).1 w9 o9) := HG9'
      clear HGb1 HGb2 HG9'
      go_wp2_with fail
      go_at_call 17
      refine (HG9.out.stepA HL.out.f4 Hs4.out).mono ?_
      rintro e w10 ⟨rfl, o10, HG10⟩
      clear HG9
      go_wp2_with fail
      go_at_call 20
      refine (el_state 1 pa _ _ o10 HG10.out.ea).mono ?_
      rintro e w11 ⟨rfl, hb11⟩
      rw [HL.out.za]
      have HG11 := hid (HG10.out.next (Fr.of_below hb11 [] o10))
      clear HG10 hb11
      go_wp2_with fail
      go_at_call 20
      refine (el_state 3 pb _ _ o10 HG11.out.eb).mono ?_
      rintro e w12 ⟨rfl, hb12⟩
      rw [HL.out.zb]
      have HG12 := hid (HG11.out.next (Fr.of_below hb12 [] o10))
      clear HG11 hb12
      go_wp2
      go_ret
      exact ⟨rfl, HG12.out.fr.below (by simp [TS2])⟩

theorem pair_walk_f (x0 x1 : Int) (x3 x4 n1 n k nd q : Int) (w : World) (s0 : -9223372036854775808 ≤ x0) (s0' : x0 < 9223372036854775808) (s1 : -9223372036854775808 ≤ x1) (s1' : x1 < 9223372036854775808)
    (s3 : 0 ≤ x3) (s3' : x3 < 4294967296) (s4 : -9223372036854775808 ≤ x4) (s4' : x4 < 9223372036854775808)
    (hn1 : pick x0 16 = n1) (hn : 1 + n1 = n) (hk : pick x1 n = k) (hnd : x3 % 1073741824 = nd) (hq : pick x4 30 = q) :
    Calls Try.prog 5 #[.int .i64 x0, .int .i64 x1, .bool false, .int .u32 x3, .int .i64 x4] w fun e w' => e = .returned (.bool true) ∧ Below w.heap.size w w' := by
  have p0 : 0 ≤ n1 ∧ n1 < 16 := by have := pick_range x0 16 (by decide); omega
  have n0 : 1 ≤ n ∧ n ≤ 16 := by omega
  have Hn1 := hid hn1
  clear hn1
  have k0 : 0 ≤ k ∧ k < n := by have := pick_range x1 n (by omega); omega
  have q0 : 0 ≤ q ∧ q < 30 := by have := pick_range x4 30 (by decide); omega
  have d0 : 0 ≤ nd ∧ nd < 1073741824 := by omega
  obtain ⟨N, rfl⟩ := Int.eq_ofNat_of_zero_le (show 0 ≤ n by omega)
  obtain ⟨K, rfl⟩ := Int.eq_ofNat_of_zero_le (show 0 ≤ k by omega)
  obtain ⟨Q, rfl⟩ := Int.eq_ofNat_of_zero_le (show 0 ≤ q by omega)
  have HL := hid (pairLaw (n := N) (k := K) (pf := false) (node := nd) (by omega) (by omega) d0.1 d0.2 Q (by omega))
  have HF := fun j => hid (pa_fits (n := N) (k := K) (pf := false) (node := nd) (by omega) (by omega) j)
  have HWA := hid (show ElWf (El.new (cN N) ⟨N, 3⟩ false nd 8 100) from ⟨by simp [El.new, cN], by simp [El.new, cN], by simp [El.new]; omega, by simp [El.new]; omega, by simp [El.new]; omega, by simp [El.new], by simp [El.new], by simp [El.new]⟩)
  have HWB := hid (show ElWf (El.new (cN N) ⟨N, 2⟩ (!false) nd 8 100) from ⟨by simp [El.new, cN], by simp [El.new, cN], by simp [El.new]; omega, by simp [El.new]; omega, by simp [El.new]; omega, by simp [El.new], by simp [El.new], by simp [El.new]⟩)
  have Hnp := hid (show 0 < (N : Int) ∧ (N : Int) < 9223372036854775808 by omega)
  have Hkp := hid (show 0 ≤ (K : Int) ∧ (K : Int) < 18446744073709551616 ∧ K < 64 by omega)
  have Hok := hid (cN_ok (n := (N : Int)) (by omega) (by omega))
  have Hn := hid hn
  have Hk := hid hk
  have Hd := hid hnd
  have Hq := hid hq
  clear hn hk hnd hq
  go_enter Try.func5, Try.ntmps5
  go_upto_region 2 with (first
    | (go_at_call 12
       refine (shown_calls _ (fun _ => 0)).mono ?_
       rintro e w1 ⟨rfl, o1, hf1⟩
       have F0 := hid hf1
       clear hf1))
  go_upto_region 3 with (first
    | (go_at_call 21
       refine (pick_calls x0 16 _ s0 s0' (by decide) (by decide)).mono ?_
       rintro e w' ⟨rfl, rfl⟩
       rw [Hn1.out]))
  rw [Hn.out]
  go_upto_region 4 with fail
  have W0 := Way.start w1 o1 #[.int .i64 3, .int .i64 N, .int .i64 0, .int .u32 0]
  have HB0 : Hid (Fr TS2 w _ (fun _ => 0) _) := hid ((F0.out.trans W0.fr (fun _ h => h)).mono (by simp [TS, TS2]))
  have HB1 := hid W0.b
  have HB2 := hid W0.ob
  have b0 := W0.b.cell
  clear W0 F0
  generalize w1.alloc (.cells #[.int .i64 3, .int .i64 N, .int .i64 0, .int .u32 0] 26) = V1 at *
  generalize w1.heap.size = B at *
  generalize extAll o1 B 0 = o0 at *
  go_upto_region 7 with (first
    | (go_at_call 13
       refine (begun_calls (cN N) Hok.out (by simp [cN]) (by simp [cN]) 6 _ o0).mono ?_
       rintro e w1 ⟨pm, rfl, o1, hf1, hm1⟩
       have HF1 := hid hf1
       have HM1 := hid hm1
       have b1 := (hf1.blk HB1.out (by simp)).cell
       have HB3 := hid (hf1.blk HB1.out (by simp))
       clear hf1 hm1)
    | (go_at_call 14
       refine (snew_calls 9 _ o1).mono ?_
       rintro e w2 ⟨pr, rfl, o2, hf2, hs2⟩
       have HF2 := hid hf2
       have HS2 := hid hs2
       have b2 := (hf2.blk HB3.out (by simp)).cell
       have HB4 := hid (hf2.blk HB3.out (by simp))
       clear hf2 hs2))
  rw [Hd.out]
  go_upto_region 11 with (first
    | (go_at_call 15
       refine (elnew_calls 3 (cN N) ⟨N, 2⟩ (!false) nd 8 100 _ o3 HWB.out).mono ?_
       rintro e w4 ⟨pb, rfl, o4, hf4, he4⟩
       have HF4 := hid hf4
       have HE4 := hid he4
       clear hf4 he4)
    | (go_at_call 15
       refine (elnew_calls 1 (cN N) ⟨N, 3⟩ false nd 8 100 _ o2 HWA.out).mono ?_
       rintro e w3 ⟨pa, rfl, o3, hf3, he3⟩
       have HF3 := hid hf3
       have HE3 := hid he3
       have b3 := (hf3.blk HB4.out (by simp)).cell
       clear hf3 he3))
  have HS4 := hid (src_keep HS2.out HF3.out HF4.out)
  clear b0 b1 b2 b3 HB3 HB4
  go_upto_region 14 with (first
    | (go_at_call 21
       refine (pick_calls x1 N _ s1 s1' Hnp.out.1 Hnp.out.2).mono ?_
       rintro e w' ⟨rfl, rfl⟩
       rw [Hk.out])
    | (go_at_call 23
       refine (add_calls 9 pr ⟨0, [(K : Int)]⟩ K _ o5 HS5.out Hkp.out.1 Hkp.out.2.1 (by simp)).mono ?_
       rintro e w6 ⟨rfl, o6, hf6, hs6⟩
       rw [(add_k Hkp.out.2.2 _).1]
       rw [(add_k Hkp.out.2.2 _).2] at hs6
       have HF6 := hid hf6
       have HS6 := hid hs6
       clear hf6 hs6)
    | (go_at_call 23
       refine (add_calls 9 pr ⟨0, []⟩ K _ o4 HS4.out Hkp.out.1 Hkp.out.2.1 (by simp)).mono ?_
       rintro e w5 ⟨rfl, o5, hf5, hs5⟩
       rw [(add_k Hkp.out.2.2 _).1]
       rw [(add_k Hkp.out.2.2 _).2] at hs5
       have HF5 := hid hf5
       have HS5 := hid hs5
       clear hf5 hs5))
  have HG0 : Hid (Go4 w (fun _ => 0) B #[.int .i64 3, .int .i64 N, .int .i64 0, .int .u32 0] pa pb pm pr ((pa0 N K false nd).iter 0) (pb0 N false nd) w6 o6) :=
    hid (Go4.start HB0.out HB1.out HB2.out HF1.out HM1.out HF2.out HF3.out HE3.out HF4.out HE4.out HF5.out HF6.out HS6.out)
  clear HB0 HB1 HB2 HF1 HM1 HF2 HF3 HE3 HF4 HE4 HF5 HF6 HS6 HS2 HS4 HS5
  go_wp2_with fail
  go_loopw [20, 21, 22] (fun x _ _ wr => ∃ (j : Nat) (o : Nat → Nat), j ≤ 2 + Q ∧ x = .int .i64 (j : Int) ∧ Hid (Go4 w (fun _ => 0) B #[.int .i64 3, .int .i64 N, .int .i64 0, .int .u32 0] pa pb pm pr ((pa0 N K false nd).iter j) (pb0 N false nd) wr o))
    (fun x _ _ _ => (2 + Q) - (intOf x).toNat)
  case atStart => exact ⟨0, o6, by omega, by simp, HG0⟩
  case round =>
    clear HG0
    obtain ⟨j, o, hj, rfl, HG⟩ := hrel
    by_cases hlt : j < 2 + Q
    · have hd1 : decide ((j : Int) < 2 + (Q : Int)) = true := by simp; omega
      have hj1 : j + 1 ≤ 2 + Q := hlt
      have hf := (HF j).out (by omega)
      have hf1 : (((pa0 N K false nd).iter j).1.step ((pa0 N K false nd).iter j).2.1 ((pa0 N K false nd).iter j).2.2).1 = (0, (((pa0 N K false nd).iter j).1.step ((pa0 N K false nd).iter j).2.1 ((pa0 N K false nd).iter j).2.2).1.2) := Prod.ext hf.1 rfl
      have Hf := hid hf
      have Hf1 := hid hf1
      clear hf hf1
      go_wp2_with (first
        | (go_at_call 21
           refine (pick_calls x4 30 _ s4 s4' (by decide) (by decide)).mono ?_
           rintro e w' ⟨rfl, rfl⟩
           rw [Hq.out])
        | (go_at_call 17
           refine (HG.out.stepA Hf.out.2 Hf1.out).mono ?_
           rintro e w7 ⟨rfl, o7, HG7⟩))
      go_roundw
      case rel => exact ⟨j + 1, o7, hj1, by go_num, HG7⟩
      case measure => exact meas_lt hlt
    · have hj2 : j = 2 + Q := Nat.le_antisymm hj (Nat.le_of_not_lt hlt)
      have hd1 : decide ((j : Int) < 2 + (Q : Int)) = false := by simp; omega
      have HG0 : Hid (Go4 w (fun _ => 0) B #[.int .i64 3, .int .i64 N, .int .i64 0, .int .u32 0] pa pb pm pr (psS N K false nd Q) (pb0 N false nd) wr o) := by rw [hj2] at HG; exact HG
      have hagg : ∀ w, (binOp .eql 34 (.agg #[.int .i64 N, .int .i64 0]) (.agg #[.int .i64 N, .int .i64 0])).run Try.prog w = .ok (.bool true) w := eql_state N 0
      clear HG HF hj hlt hj2
      have hs2 : ((ptS N K false nd Q).1.step (ptS N K false nd Q).2.1 (ptS N K false nd Q).2.2).1 = (1, 0) := HL.out.s2
      have hs4 : ((pvS N K false nd Q).1.step (pvS N K false nd Q).2.1 (pvS N K false nd Q).2.2).1 = (1, nd) := HL.out.s4
      have Hs2 := hid hs2
      have Hs4 := hid hs4
      clear hs2 hs4
      go_wp2_with (first
        | (go_at_call 21
           refine (pick_calls x4 30 _ s4 s4' (by decide) (by decide)).mono ?_
           rintro e w' ⟨rfl, rfl⟩
           rw [Hq.out]))
      go_at_call 17
      refine (HG0.out.stepB HL.out.f1 HL.out.s1).mono ?_
      rintro e w7 ⟨rfl, o7, HG7'⟩
      have HG7 : Hid (Go4 w (fun _ => 0) B #[.int .i64 3, .int .i64 N, .int .i64 0, .int .u32 0] pa pb pm pr ((psS N K false nd Q).1, (ptS N K false nd Q).2) (ptS N K false nd Q).1 w7 o7) := HG7'
      clear HG0 HG7'
      go_wp2_with fail
      go_at_call 17
      refine (HG7.out.stepB HL.out.f2 Hs2.out).mono ?_
      rintro e w8 ⟨rfl, o8, HG8'⟩
      have HG8 : Hid (Go4 w (fun _ => 0) B #[.int .i64 3, .int .i64 N, .int .i64 0, .int .u32 0] pa pb pm pr ((psS N K false nd Q).1, (puS N K false nd Q).2) (puS N K false nd Q).1 w8 o8) := HG8'
      clear HG7 HG8'
      go_wp2_with fail
      go_at_call 18
      refine (words_calls 11 6 pm _ _ o8 HG8.out.mem).mono ?_
      rintro e wa1 ⟨va1, rfl, oa1, hfa1, hsa1⟩
      have HGa1 := hid (HG8.out.next hfa1)
      obtain ⟨aa1, na1, ka1, rfl, hla1⟩ := hsa1.form
      have HSa1 := hid hsa1
      clear hfa1 hsa1 hla1
      go_wp2_with fail
      go_at_call 27
      refine (el_met 1 pa 11 _ _ _ _ oa1 HGa1.out.ea HSa1.out HL.out.ea).mono ?_
      rintro e wb1 ⟨rfl, ma1, rfl⟩
      rw [HL.out.ma]
      have HGb1 := hid (HGa1.out.next (Fr.drewN (Fr.refl [] _ _) ma1))
      clear HGa1 HSa1
      go_wp2_with fail
      go_at_call 18
      refine (words_calls 11 6 pm _ _ oa1 HGb1.out.mem).mono ?_
      rintro e wa2 ⟨va2, rfl, oa2, hfa2, hsa2⟩
      have HGa2 := hid (HGb1.out.next hfa2)
      obtain ⟨aa2, na2, ka2, rfl, hla2⟩ := hsa2.form
      have HSa2 := hid hsa2
      clear hfa2 hsa2 hla2
      go_wp2_with fail
      go_at_call 27
      refine (el_met 3 pb 11 _ _ _ _ oa2 HGa2.out.eb HSa2.out HL.out.eb).mono ?_
      rintro e wb2 ⟨rfl, ma2, rfl⟩
      rw [HL.out.mb]
      have HGb2 := hid (HGa2.out.next (Fr.drewN (Fr.refl [] _ _) ma2))
      clear HGa2 HSa2
      go_wp2_with fail
      go_at_call 17
      refine (HGb2.out.stepA HL.out.f3 HL.out.s3).mono ?_
      rintro e w9 ⟨rfl, o9, HG9'⟩
      have HG9 : Hid (Go4 w (fun _ => 0) B #[.int .i64 3, .int .i64 N, .int .i64 0, .int .u32 0] pa pb pm pr (pvS N K false nd Q) (puS N K false nd Q).1 w9 o9) := HG9'
      clear HGb1 HGb2 HG9'
      go_wp2_with fail
      go_at_call 17
      refine (HG9.out.stepA HL.out.f4 Hs4.out).mono ?_
      rintro e w10 ⟨rfl, o10, HG10⟩
      clear HG9
      go_wp2_with fail
      go_at_call 20
      refine (el_state 1 pa _ _ o10 HG10.out.ea).mono ?_
      rintro e w11 ⟨rfl, hb11⟩
      rw [HL.out.za]
      have HG11 := hid (HG10.out.next (Fr.of_below hb11 [] o10))
      clear HG10 hb11
      go_wp2_with fail
      go_at_call 20
      refine (el_state 3 pb _ _ o10 HG11.out.eb).mono ?_
      rintro e w12 ⟨rfl, hb12⟩
      rw [HL.out.zb]
      have HG12 := hid (HG11.out.next (Fr.of_below hb12 [] o10))
      clear HG11 hb12
      go_wp2
      go_ret
      exact ⟨rfl, HG12.out.fr.below (by simp [TS2])⟩

end Go.Proofs.Ytkilpnfgpepfmaa
