/- hatstandlaw12.ElimPlace: the walk. -/
import Derived.Test.YtkilpnfgpepfmaaPlaceA
set_option linter.unusedSimpArgs false
set_option linter.unusedVariables false
set_option linter.unusedSectionVars false
open Go Go.RowKit Hat
namespace Go.Proofs.Ytkilpnfgpepfmaa
set_option maxHeartbeats 4000000
set_option maxRecDepth 100000


theorem place_walk_b (x0 x1 x2 : Int) (push : Bool) (n1 n k1 k d : Int) (w : World) (s0 : -9223372036854775808 ≤ x0) (s0' : x0 < 9223372036854775808) (s1 : -9223372036854775808 ≤ x1) (s1' : x1 < 9223372036854775808)
    (s2 : -9223372036854775808 ≤ x2) (s2' : x2 < 9223372036854775808) (hn1 : pick x0 16 = n1) (hn : 1 + n1 = n) (hk1 : pick x1 n = k1) (hk : 1 + k1 = k) (hd : pick x2 65 = d) (hd64 : ¬ d < 64) :
    Calls Try.prog 4 #[.int .i64 x0, .int .i64 x1, .int .i64 x2, .bool push] w fun e w' => e = .returned (.bool true) ∧ Below w.heap.size w w' := by
  have p0' : 0 ≤ n1 ∧ n1 < 16 := by have := pick_range x0 16 (by decide); omega
  have n0 : 1 ≤ n ∧ n ≤ 16 := by omega
  have q0 : 0 ≤ k1 ∧ k1 < n := by have := pick_range x1 n (by omega); omega
  have k0 : 1 ≤ k ∧ k ≤ n := by omega
  have d0 : 0 ≤ d ∧ d < 65 := by have := pick_range x2 65 (by decide); omega
  obtain ⟨N, rfl⟩ := Int.eq_ofNat_of_zero_le (show 0 ≤ n by omega)
  obtain ⟨K, rfl⟩ := Int.eq_ofNat_of_zero_le (show 0 ≤ k by omega)
  have PL := place_law (n := N) (k := K) (p := 0) (push := push) (ds := []) (by omega) (by omega) (by omega) (by omega) (drawn_0)
  have L1 := hid PL.1
  have L2 := hid PL.2.1
  have L3 := hid PL.2.2.1
  have L4 : Hid (((plT N K push []).iter 6).1.place = (cP N).slot 0) := hid PL.2.2.2.1
  have L5 := hid PL.2.2.2.2.1
  have L6 := hid PL.2.2.2.2.2.1
  have L7 : Hid (∀ x ∈ ((plT N K push []).iter 6).2.1.ns, x.at_ = (cP N).slot 0) := hid PL.2.2.2.2.2.2.1
  obtain ⟨M, hM⟩ : ∃ M : Nat, M = 8 + N := ⟨_, rfl⟩
  obtain ⟨Q, hQ⟩ : ∃ Q : Nat, Q = 8 + 0 := ⟨_, rfl⟩
  have L8 : Hid (((plT N K push []).iter 6).2.1.ws.length = M) := hid (by rw [hM]; exact PL.2.2.2.2.2.2.2.1)
  have L9 : Hid ((cP N).slot 0 = (Q : Int)) := hid (by rw [hQ]; exact PL.2.2.2.2.2.2.2.2.1)
  have L10 : Hid (((plT N K push []).iter 6).2.1.ws.getD Q 0 = sword 0 0 6) := hid (by rw [hQ]; exact PL.2.2.2.2.2.2.2.2.2)
  have HQM := hid (show Q < M by omega)
  clear PL
  have Hn1 := hid hn1
  have Hk1 := hid hk1
  have Hn := hid hn
  have Hk := hid hk
  have Hd := hid hd

  have Hnp := hid (show 0 < (N : Int) ∧ (N : Int) < 9223372036854775808 by omega)
  have Hok := hid (cP_ok (n := (N : Int)) (by omega) (by omega))
  have HWA := hid (show ElWf (El.new (cP N) ⟨K, 0⟩ push 1 3 2) from ⟨by simp [El.new, cP], by simp [El.new, cP], by simp [El.new]; omega, by simp [El.new], by simp [El.new], by simp [El.new], by simp [El.new], by simp [El.new]⟩)
  have Hpb := hid (show -9223372036854775808 ≤ (0 : Int) ∧ (0 : Int) < 9223372036854775808 by omega)
  clear hM hQ
  have hdt : decide (d < 64) = false := by simp; omega

  clear hn1 hk1 hn hk hd
  go_enter Try.func4, Try.ntmps4
  go_upto_region 2 with (first
    | (go_at_call 12
       refine (shown_calls _ (fun _ => 0)).mono ?_
       rintro e w1 ⟨rfl, o1, hf1⟩
       have F0 := hid hf1
       clear hf1))
  go_upto_region 3 with (first
    | (go_at_call 21
       refine (pick_calls x0 16 _ s0 s0' (by decide) (by decide)).mono ?_
       rintro e w' ⟨rfl, rfl⟩
       rw [Hn1.out]))
  rw [Hn.out]
  go_upto_region 4 with fail
  have W0 := Way.start w1 o1 #[.int .i64 3, .int .i64 N, .int .i64 0, .int .u32 5]
  have HW0 : Hid (Way w (fun _ => 0) w1.heap.size #[.int .i64 3, .int .i64 N, .int .i64 0, .int .u32 5] _ _) := hid ⟨F0.out.trans W0.fr (fun _ h => h), W0.b, W0.ob⟩
  have b0 := W0.b.cell
  clear W0 F0
  generalize w1.alloc (.cells #[.int .i64 3, .int .i64 N, .int .i64 0, .int .u32 5] 26) = V1 at *
  generalize w1.heap.size = B at *
  generalize extAll o1 B 0 = o0 at *
  go_upto_region 7 with (first
    | (go_at_call 13
       refine (begun_calls (cP N) Hok.out (by simp [cP]) (by simp [cP]) 3 _ o0).mono ?_
       rintro e w1 ⟨pm, rfl, o1, hf1, hm1⟩
       have W1 := HW0.out.next hf1 (by simp)
       have b1 := W1.b.cell
       have HW1 := hid W1
       have HM1 := hid hm1
       clear hf1 W1 hm1)
    | (go_at_call 14
       refine (snew_calls 6 _ o1).mono ?_
       rintro e w2 ⟨pr, rfl, o2, hf2, hs2⟩
       have W2 := HW1.out.next hf2 (by simp)
       have b2 := W2.b.cell
       have HW2 := hid W2
       have HS2 := hid hs2
       have HF2 := hid hf2
       clear hf2 W2 hs2)
    | (go_at_call 21
       refine (pick_calls x1 N _ s1 s1' Hnp.out.1 Hnp.out.2).mono ?_
       rintro e w' ⟨rfl, rfl⟩
       rw [Hk1.out]))
  rw [Hk.out]
  go_upto_region 10 with (first
    | (go_at_call 15
       refine (elnew_calls 1 (cP N) ⟨K, 0⟩ push 1 3 2 _ o2 HWA.out).mono ?_
       rintro e w3 ⟨p, rfl, o3, hf3, he3⟩
       have W3 := HW2.out.next hf3 (by simp)
       have b3 := W3.b.cell
       have HW3 := hid W3
       have HE3 := hid he3
       have HF3 := hid hf3
       have HS3 := hid (Locl.keep IsSrc.loc HS2.out hf3 (by simp))
       clear hf3 W3 he3)
    | (go_at_call 22
       refine (el_place 1 p _ _ o3 HE3.out).mono ?_
       rintro e w' ⟨rfl, rfl⟩
       rw [show (El.new (cP N) ⟨K, 0⟩ push 1 3 2).place = -1 from rfl]))
  go_upto_region 16 with (first
    | (go_at_call 21
       refine (pick_calls x2 65 _ s2 s2' (by decide) (by decide)).mono ?_
       rintro e w' ⟨rfl, rfl⟩
       rw [Hd.out]))
  have HG0 : Hid (Go3 w (fun _ => 0) B #[.int .i64 3, .int .i64 N, .int .i64 0, .int .u32 5] p pm pr ((plT N K push []).iter 0) _ o3) := hid ⟨HW3.out, sh_trio (s := (plT N K push []).iter 0) HM1.out HF2.out HF3.out HE3.out (Fr.refl _ _ _) HS3.out rfl⟩
  clear HW0 b0 HW1 b1 HM1 HW2 HS2 HF2 b2 HW3 b3 HE3 HF3 HS3
  go_wp2_with fail
  go_loopw [18, 19, 20] (fun i _ _ wr => ∃ (j : Nat) (o : Nat → Nat), j ≤ 5 ∧ i = .int .i64 (j : Int) ∧ Hid (Go3 w (fun _ => 0) B #[.int .i64 3, .int .i64 N, .int .i64 0, .int .u32 5] p pm pr ((plT N K push []).iter j) wr o))
    (fun i _ _ _ => 10 - (intOf i).toNat)
  case atStart => exact ⟨0, o3, by omega, by simp, HG0⟩
  case round =>
    clear HG0
    obtain ⟨j, o, hj, rfl, HG⟩ := hrel
    have hd1 : decide ((j : Int) < 10) = true := by simp; omega
    have hj10 : j < 10 := by omega
    by_cases hlt : j < 5
    · have hj1 : j + 1 ≤ 5 := hlt
      have Hs := hid (L1.out j hlt)
      have Hf := hid (L2.out j (by omega))
      go_wp2_with (first
        | (go_at_call 17
           refine (trio_step 1 p 3 pm 6 pr ((plT N K push []).iter j) _ o HG.out.trio (by decide) Hf.out).mono ?_
           rintro e1 w8 ⟨rfl, o8, hf8, ht8⟩
           rw [Hs.out]
           have hh := HG.out.way.next hf8 (by simp [TS])
           have HG8 : Hid (Go3 w (fun _ => 0) B #[.int .i64 3, .int .i64 N, .int .i64 0, .int .u32 5] p pm pr ((plT N K push []).iter (j + 1)) w8 o8) := hid (Go3.mk hh ht8)
           clear hf8 ht8 hh))
      go_roundw
      case rel => exact ⟨j + 1, o8, hj1, by go_num, HG8⟩
      case measure => exact measN hj10
    · have hj5 : j = 5 := by omega
      subst hj5
      have Hf := hid (L2.out 5 (by decide))
      clear hlt hj hj10 hd1
      go_upto_region 22 with (first
        | (go_at_call 17
           refine (trio_step 1 p 3 pm 6 pr ((plT N K push []).iter 5) _ o HG.out.trio (by decide) Hf.out).mono ?_
           rintro e1 w8 ⟨rfl, o8, hf8, ht8⟩
           rw [L3.out]
           have hh := HG.out.way.next hf8 (by simp [TS])
           have HG8 : Hid (Go3 w (fun _ => 0) B #[.int .i64 3, .int .i64 N, .int .i64 0, .int .u32 5] p pm pr ((plT N K push []).iter 6) w8 o8) := hid (Go3.mk hh ht8)
           clear hf8 ht8 hh)
        | (go_at_call 24
           refine (since_calls 8 3 pm _ _ o8 HG8.out.trio.mem (by rw [L6.out]; decide)).mono ?_
           rintro e1 w9 ⟨v9, rfl, o9, hf9, hs9⟩
           obtain ⟨b9, c9, rfl, ha9⟩ := Acc8.of hs9 (by rw [L6.out]; decide)
           rw [L6.out]
           have HA9 := hid ha9
           have HG9 := hid (HG8.out.next hf9)
           clear hf9 hs9 ha9))
      clear HG HG8
      go_wp2_with fail
      go_loopw [22] (fun i wr => ∃ (j : Nat) (o : Nat → Nat), j ≤ 6 ∧ i = .int .i64 (j : Int) ∧ Hid (Go3 w (fun _ => 0) B #[.int .i64 3, .int .i64 N, .int .i64 0, .int .u32 5] p pm pr ((plT N K push []).iter 6) wr o) ∧ Hid (Acc8 ((plT N K push []).iter 6).2.1.ns b9 c9 wr o))
        (fun i _ => 6 - (intOf i).toNat)
      case atStart => exact ⟨0, o9, by omega, by simp, HG9, HA9⟩
      case round =>
        clear HG9 HA9
        obtain ⟨j, o, hj, rfl, HG, HA⟩ := hrel
        by_cases hlt : j < 6
        · have hd2 : decide ((j : Int) < 6) = true := by simp; omega
          have hj1 : j + 1 ≤ 6 := hlt
          have hj0 : (0 : Int) ≤ (j : Int) := by omega
          have hj6 : (j : Int) < 6 := by omega
          have HC := HA.out.cell (j := j) (by rw [L6.out]; exact hlt) L7.out
          have c9' := HC.1
          have l9' := HC.2
          clear HC
          have b0 := HG.out.way.b.cell
          go_upto_region 25 with fail
          have HGd := hid HG.out.drew
          have HAd := hid (HA.out.next ((Fr.refl [] _ _).drew))
          go_cut [101] from 93 to 101 (fun t wx => t = .bool false ∧ ∃ o', Hid (Go3 w (fun _ => 0) B #[.int .i64 3, .int .i64 N, .int .i64 0, .int .u32 5] p pm pr ((plT N K push []).iter 6) wx o') ∧ Hid (Acc8 ((plT N K push []).iter 6).2.1.ns b9 c9 wx o'))
          case first =>
            go_region_with (first
              | (go_at_call 19
                 refine (slot_calls (cP N) 0 _ Hpb.out.1 Hpb.out.2).mono ?_
                 rintro e1 ws ⟨rfl, hbs⟩
                 have bs := (bcell hbs).1
                 have HGs := hid (HGd.out.below hbs)
                 have HAs := hid (HAd.out.next (Fr.of_below hbs [] o))
                 have cs9 := (bs b9 (j * 5 + 1) l9').trans c9'
                 clear hbs bs))
            all_goals
              simp only [Act.put, List.getElem_toArray, List.getElem_cons_succ, List.getElem_cons_zero, List.setIfInBounds_toArray, List.set_cons_zero, List.set_cons_succ]
              go_wp2_with fail
              go_meet
              case rel => exact ⟨rfl, _, HGs, HAs⟩
          case rest =>
            clear HG HA HGd HAd b0
            obtain ⟨rfl, o7, HG7, HA7⟩ := hcut
            go_wp2
            go_roundw
            case rel => exact ⟨j + 1, o7, hj1, by go_num, HG7, HA7⟩
            case measure => exact measN hlt
        · have hj6 : j = 6 := by omega
          subst hj6
          clear hlt hj
          have b0 := HG.out.way.b.cell
          go_upto_region 27 with fail
          have HGd := hid HG.out.drew
          have bd0 := HGd.out.way.b.cell
          have hq0 : (0 : Int) ≤ (Q : Int) := by simp
          have hqm : (Q : Int) < (M : Int) := by simpa using HQM.out
          have hqm' : Q < M := HQM.out
          clear HG HA b0
          go_cut [8] from 102 to 128 (fun t wx => t = .bool true ∧ ∃ o', Hid (Go3 w (fun _ => 0) B #[.int .i64 3, .int .i64 N, .int .i64 0, .int .u32 5] p pm pr ((plT N K push []).iter 6) wx o'))
          case first =>
            go_region_with (first
                  | (go_at_call 22
                     refine (el_place 1 p _ _ o HGd.out.trio.el).mono ?_
                     rintro e1 w1' ⟨rfl, rfl⟩
                     rw [L4.out])
                  | (go_at_call 19
                     refine (slot_calls (cP N) 0 _ Hpb.out.1 Hpb.out.2).mono ?_
                     rintro e1 wt ⟨rfl, hbs⟩
                     rw [L9.out]
                     have HGt := hid (HGw.out.below hbs)
                     have ct8 := ((bcell hbs).1 b8 Q l8).trans c8
                     clear hbs)
                  | (go_at_call 19
                     refine (slot_calls (cP N) 0 _ Hpb.out.1 Hpb.out.2).mono ?_
                     rintro e1 ws ⟨rfl, hbs⟩
                     have HGs := hid (HGd.out.below hbs)
                     have bs1 := HGs.out.way.b.cell
                     clear hbs)
                  | (go_at_call 25
                     refine (left_calls 6 pr _ _ o HGs.out.trio.src).mono ?_
                     rintro e1 w1' ⟨rfl, rfl⟩
                     rw [L5.out]
                     simp only [List.length_nil, Int.natCast_zero])
                  | (go_at_call 18
                     refine (words_calls 8 3 pm _ _ o HGs.out.trio.mem).mono ?_
                     rintro e1 ww ⟨v8, rfl, o8', hf8, hs8⟩
                     obtain ⟨b8, k8, rfl, l8, c8⟩ := wordP (Got.mk hs8) L8.out hqm' L10.out
                     have HGw := hid (HGs.out.next hf8)
                     have bw := HGw.out.way.b.cell
                     clear hf8 hs8)
                  | (go_at_call 26
                     refine (sWord_calls 0 0 6 _ (by decide) (by decide) (by decide) (by decide) (by decide) (by decide)).mono ?_
                     rintro e1 w1' ⟨rfl, rfl⟩))
            all_goals
              simp only [Act.put, List.getElem_toArray, List.getElem_cons_succ, List.getElem_cons_zero, List.setIfInBounds_toArray, List.set_cons_zero, List.set_cons_succ]
              go_wp2_with fail
              go_meet
              case rel => exact ⟨rfl, _, HGt⟩
          case rest =>
            obtain ⟨rfl, o10, HG10⟩ := hcut
            go_wp2
            go_ret
            exact ⟨rfl, HG10.out.way.fr.below (by simp [TS])⟩
end Go.Proofs.Ytkilpnfgpepfmaa
