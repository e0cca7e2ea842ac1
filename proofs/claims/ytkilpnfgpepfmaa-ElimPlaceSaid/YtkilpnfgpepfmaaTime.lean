/- hatstandlaw12.ElimTime: the walk. -/
import Derived.Test.YtkilpnfgpepfmaaTimeP
set_option linter.unusedSimpArgs false
set_option linter.unusedVariables false
set_option linter.unusedSectionVars false
open Go Go.RowKit Hat
namespace Go.Proofs.Ytkilpnfgpepfmaa
set_option maxHeartbeats 4000000
set_option maxRecDepth 100000

/-- A config's block, a frame, and the three, on the way. -/
structure Go3 (w : World) (z : Nat → Nat) (B : Nat) (cs : Array Value) (p pm pr : Nat) (s : Trio) (W : World) (o : Nat → Nat) : Prop where
  way : Way w z B cs W o
  trio : IsTrio 1 p 3 pm 6 pr s W o
theorem Go3.next {w W W' : World} {z o o' : Nat → Nat} {B p pm pr : Nat} {cs : Array Value} {s : Trio} (h : Go3 w z B cs p pm pr s W o) (hf : Fr [] W W' o o') : Go3 w z B cs p pm pr s W' o' :=
  ⟨h.way.next hf (by simp), IsTrio.loc (by decide) h.trio hf (by simp)⟩
theorem Go3.below {w W W' : World} {z o : Nat → Nat} {B p pm pr : Nat} {cs : Array Value} {s : Trio} (h : Go3 w z B cs p pm pr s W o) (hb : Below W.heap.size W W') : Go3 w z B cs p pm pr s W' o :=
  h.next (Fr.of_below hb [] o)
theorem Go3.drew {w W : World} {z o : Nat → Nat} {B p pm pr : Nat} {cs : Array Value} {s : Trio} (h : Go3 w z B cs p pm pr s W o) : Go3 w z B cs p pm pr s W.drew o :=
  h.next ((Fr.refl [] W o).drew)
/-- The memory's words, asked for. -/
structure Got (ws : List Int) (v : Value) (W : World) (o : Nat → Nat) : Prop where
  sl : Sl 8 22 1 v (u64s ws) W o
theorem Got.below {ws : List Int} {v : Value} {W W' : World} {o : Nat → Nat} (h : Got ws v W o) (hb : Below W.heap.size W W') : Got ws v W' o :=
  ⟨Locl.keep Sl.loc h.sl (Fr.of_below hb [] o) (by simp)⟩
theorem Got.open_ {ws : List Int} {v : Value} {W : World} {o : Nat → Nat} (h : Got ws v W o) (hne : ws ≠ []) :
    ∃ b c, v = .slice (some ⟨b, 0, none⟩) ws.length c ∧ b < W.heap.size ∧ (∀ j : Nat, j < ws.length → W.cell? ⟨b, j, none⟩ = some (.int .u64 (ws.getD j 0))) := by
  obtain ⟨b, n, c, rfl, hl, ho, hlt, hc, _⟩ := h.sl.cells (by intro h; apply hne; simpa [u64s] using h)
  rw [length_u64s] at hl
  have hn : n = ws.length := by omega
  subst hn
  exact ⟨b, c, rfl, hlt, fun j hj => hc j _ (u64s_get ws j hj)⟩

theorem word8 {ws : List Int} {v : Value} {W : World} {o : Nat → Nat} {x : Int} (h : Got ws v W o) (hl : ws.length = 10) (hx : ws.getD 8 0 = x) :
    ∃ b c, v = .slice (some ⟨b, 0, none⟩) 10 c ∧ b < W.heap.size ∧ W.cell? ⟨b, 8, none⟩ = some (.int .u64 x) := by
  obtain ⟨b, c, rfl, hlt, hc⟩ := h.open_ (by intro e; rw [e] at hl; simp at hl)
  exact ⟨b, c, by rw [hl], hlt, by rw [hc 8 (by omega), hx]⟩

theorem meas70 {k : Nat} (h : k < 70) : 70 - (intOf (.int .i64 ((k : Int) + 1))).toNat < 70 - (intOf (.int .i64 (k : Int))).toNat := by simp [intOf]; omega

theorem time_walk (x0 x1 x2 a v e : Int) (w : World) (h0 : 0 ≤ x0) (h0' : x0 < 18446744073709551616) (h1 : 0 ≤ x1) (h1' : x1 < 18446744073709551616) (h2 : 0 ≤ x2) (h2' : x2 < 18446744073709551616)
    (ha : x0 % 1000 = a) (hv : x1 % 30 = v) (he : 1 + x2 % 10 = e) :
    Calls Try.prog 3 #[.int .u64 x0, .int .u64 x1, .int .u64 x2] w fun e w' => e = .returned (.bool true) ∧ Below w.heap.size w w' := by
  have a0 : 0 ≤ a ∧ a < 1000 := by omega
  have v0 : 0 ≤ v ∧ v < 30 := by omega
  have e0 : 1 ≤ e ∧ e ≤ 10 := by omega
  have Ha := hid ha
  have Hv := hid hv
  have He := hid he
  clear ha hv he
  go_enter Try.func3, Try.ntmps3
  go_upto_region 2 with (first
    | (go_at_call 12
       refine (shown_calls _ (fun _ => 0)).mono ?_
       rintro e w1 ⟨rfl, o1, hf1⟩
       have F0 := hid hf1
       clear hf1))
  go_upto_region 3 with fail
  have W0 := Way.start w1 o1 #[.int .i64 3, .int .i64 2, .int .i64 0, .int .u32 0]
  have HW0 : Hid (Way w (fun _ => 0) w1.heap.size #[.int .i64 3, .int .i64 2, .int .i64 0, .int .u32 0] _ _) := hid ⟨F0.out.trans W0.fr (fun _ h => h), W0.b, W0.ob⟩
  have b0 := W0.b.cell
  clear W0 F0
  generalize w1.alloc (.cells #[.int .i64 3, .int .i64 2, .int .i64 0, .int .u32 0] 26) = V1 at *
  generalize w1.heap.size = B at *
  generalize extAll o1 B 0 = o0 at *
  go_upto_region 11 with (first
    | (go_at_call 13
       refine (begun_calls (cN 2) (by decide) (by decide) (by decide) 3 _ o0).mono ?_
       rintro e w1 ⟨pm, rfl, o1, hf1, hm1⟩
       have W1 := HW0.out.next hf1 (by simp)
       have b1 := W1.b.cell
       have HW1 := hid W1
       have HM1 := hid hm1
       clear hf1 W1 hm1)
    | (go_at_call 14
       refine (snew_calls 6 _ o1).mono ?_
       rintro e w2 ⟨pr, rfl, o2, hf2, hs2⟩
       have W2 := HW1.out.next hf2 (by simp)
       have b2 := W2.b.cell
       have HW2 := hid W2
       have HS2 := hid hs2
       have HF2 := hid hf2
       clear hf2 W2 hs2)
    | (go_at_call 15
       rw [Hv.out]
       refine (elnew_calls 1 (cN 2) ⟨1, 0⟩ true 1 64 v _ o2 ⟨by simp [El.new, cN], by simp [El.new, cN], by simp [El.new], by simp [El.new], by simp [El.new], by simp [El.new], by simp [El.new]; omega, by simp [El.new]; omega⟩).mono ?_
       rintro e w3 ⟨p, rfl, o3, hf3, he3⟩
       have W3 := HW2.out.next hf3 (by simp)
       have b3 := W3.b.cell
       have HW3 := hid W3
       have HE3 := hid he3
       have HF3 := hid hf3
       have HS3 := hid (Locl.keep IsSrc.loc HS2.out hf3 (by simp))
       clear hf3 W3 he3)
    | (go_at_call 16
       rw [Ha.out]
       refine (tick_calls 6 pr ⟨0, []⟩ a _ o3 HS3.out (by omega) (by omega)).mono ?_
       rintro e w4 ⟨rfl, o4, hf4, hs4⟩
       have W4 := HW3.out.next hf4 (by simp [TS])
       have b4 := W4.b.cell
       have HW4 := hid W4
       have HT4 := hid hs4
       have HF4 := hid hf4
       clear hf4 W4 hs4))
  have T4 := hid (sh_trio (s := ta0 a v) HM1.out HF2.out HF3.out HE3.out (HF4.out.mono (us := [6]) (ts := [6, 7]) (by simp)) HT4.out (by simp [ta0, Src.tick, deadline]; omega))
  have HL := fun k => hid (t_law a0.1 a0.2 v0.1 v0.2 e0.1 e0.2 k)
  have HN := hid (t_end a0.1 a0.2 v0.1 v0.2 e0.1 e0.2)
  have HA := hid (ta_fits a0.1 a0.2 v0.1 v0.2)
  have HJ := tJ_le v0.1 v0.2 e0.1
  have HE12 := hid (show 0 ≤ e ∧ e < 18446744073709551616 by omega)
  have HQ := fun k => hid (t_word a0.1 a0.2 v0.1 v0.2 e0.1 e0.2 k)
  clear HW0 b0 HW1 b1 HM1 HW2 HS2 HF2 b2 HW3 b3 HE3 HF3 HS3 HF4 HT4 b4
  go_upto_region 13 with (first
    | (go_at_call 17
       refine (trio_step 1 p 3 pm 6 pr _ _ o5 T5.out (by decide) HA.out.2).mono ?_
       rintro e w6 ⟨rfl, o6, hf6, ht6⟩
       have HG := hid (Go3.mk (HW5.out.next hf6 (by simp [TS])) ht6)
       clear hf6 ht6)
    | (go_at_call 17
       refine (trio_step 1 p 3 pm 6 pr _ _ o4 T4.out (by decide) HA.out.1).mono ?_
       rintro e w5 ⟨rfl, o5, hf5, ht5⟩
       have HW5 := hid (HW4.out.next hf5 (by simp [TS]))
       have T5 := hid ht5
       clear hf5 ht5))
  rw [He.out]
  clear T4 T5 HW4 HW5
  have HG0 : Hid (Go3 w (fun _ => 0) B #[.int .i64 3, .int .i64 2, .int .i64 0, .int .u32 0] p pm pr (tIt a v e 0) w6 o6) := HG
  clear HG
  go_wp2_with fail
  go_loopw [14, 15, 16, 17, 18] (fun lk i _ _ _ wr => ∃ (k : Nat) (o : Nat → Nat), k ≤ tJ v e + 1 ∧ lk = .int .i64 (k : Int) ∧ i = .int .i64 (k : Int) ∧ Hid (Go3 w (fun _ => 0) B #[.int .i64 3, .int .i64 2, .int .i64 0, .int .u32 0] p pm pr (tIt a v e k) wr o))
    (fun _ i _ _ _ _ => 70 - (intOf i).toNat)
  case atStart => exact ⟨0, o6, by omega, by simp, by simp, HG0⟩
  case round =>
    clear HG0
    obtain ⟨k, o, hk, rfl, rfl, HG⟩ := hrel
    have b0 := HG.out.way.b.cell
    have hk70' : k < 70 := by omega
    have hk70 : decide ((k : Int) < 70) = true := by simp; omega
    go_upto_region 17 with fail
    have HGd := hid HG.out.drew
    have HQk := hid ((HQ k).out hk)
    go_cut [16] from 63 to 69 (fun n wx => n = .int .u64 tW ∧ ∃ o', Hid (Go3 w (fun _ => 0) B #[.int .i64 3, .int .i64 2, .int .i64 0, .int .u32 0] p pm pr (tIt a v e k) wx o'))
    case first =>
          go_region_with (first
            | (go_at_call 19
               refine (slot_calls (cN 2) 0 _ (by decide) (by decide)).mono ?_
               rintro e1 ws ⟨rfl, hbs⟩
               rw [show (cN 2).slot 0 = 8 from rfl]
               have bs := (bcell hbs).1
               have HGs := hid (HGw.out.below hbs)
               have cs8 := (bs b8 8 l8).trans c8
               clear hbs bs)
            | (go_at_call 18
               refine (words_calls 8 3 pm _ _ o HGd.out.trio.mem).mono ?_
               rintro e1 ww ⟨v8, rfl, o9, hf9, hs9⟩
               obtain ⟨b8, k8, rfl, l8, c8⟩ := word8 (Got.mk hs9) HQk.out.1 HQk.out.2
               have HGw := hid (HGd.out.next hf9)
               have bw := HGw.out.way.b.cell
               clear hf9 hs9))
          all_goals
            simp only [Act.put, List.getElem_toArray, List.getElem_cons_succ, List.getElem_cons_zero, List.setIfInBounds_toArray, List.set_cons_zero, List.set_cons_succ]
            go_wp2_with fail
            go_meet
            case rel => exact ⟨rfl, _, HGs⟩

    case rest =>
      clear HG HGd b0 HQk
      obtain ⟨rfl, o7, HG7⟩ := hcut
      by_cases hlt : k ≤ tJ v e
      · have hk1 := Nat.succ_le_succ hlt
        have L := (HL k).out hlt
        have HL1 := hid L.1
        have HL5 := hid L.2.2.2.2.1
        have HL6 := hid L.2.2.2.2.2
        have HL2 := hid L.2.1
        clear L
        go_wp2_with fail
        go_at_call 17
        refine (trio_step 1 p 3 pm 6 pr (tIt a v e k) _ o7 HG7.out.trio (by decide) HL2.out).mono ?_
        rintro e1 w8 ⟨rfl, o8, hf8, ht8⟩
        rw [HL1.out]
        have HG8 := hid (Go3.mk (HG7.out.way.next hf8 (by simp [TS])) ht8)
        have b0 := HG8.out.way.b.cell
        clear hf8 ht8
        go_upto_region 20 with fail
        have HGd := hid HG8.out.drew
        go_cut [85] from 78 to 85 (fun n wx => n = .bool true ∧ ∃ o', Hid (Go3 w (fun _ => 0) B #[.int .i64 3, .int .i64 2, .int .i64 0, .int .u32 0] p pm pr (tIt a v e k).step wx o'))
        case first =>
          go_region_with (first
            | (go_at_call 19
               refine (slot_calls (cN 2) 0 _ (by decide) (by decide)).mono ?_
               rintro e1 ws ⟨rfl, hbs⟩
               rw [show (cN 2).slot 0 = 8 from rfl]
               have bs := (bcell hbs).1
               have HGs := hid (HGw.out.below hbs)
               have cs8 := (bs b8 8 l8).trans c8
               clear hbs bs)
            | (go_at_call 18
               refine (words_calls 8 3 pm _ _ o8 HGd.out.trio.mem).mono ?_
               rintro e1 ww ⟨v8, rfl, o9, hf9, hs9⟩
               obtain ⟨b8, k8, rfl, l8, c8⟩ := word8 (Got.mk hs9) HL6.out HL5.out
               have HGw := hid (HGd.out.next hf9)
               have bw := HGw.out.way.b.cell
               clear hf9 hs9))
          all_goals
            simp only [Act.put, List.getElem_toArray, List.getElem_cons_succ, List.getElem_cons_zero, List.setIfInBounds_toArray, List.set_cons_zero, List.set_cons_succ]
            go_wp2_with fail
            go_meet
            case rel => exact ⟨rfl, _, HGs⟩

        case rest =>
          clear HG7 HG8 HGd b0
          obtain ⟨rfl, o10, HG10⟩ := hcut
          go_wp2_with fail
          go_at_call 16
          refine (tick_calls 6 pr (tIt a v e k).step.2.2 e _ o10 HG10.out.trio.src HE12.out.1 HE12.out.2).mono ?_
          rintro e1 w11 ⟨rfl, o11, hf11, ht11⟩
          have hh1 := HG10.out.way.next hf11 (by simp [TS])
          have hh2 := Locl.keep IsEl.loc HG10.out.trio.el hf11 (by simp)
          have hh3 := Locl.keep IsMem.loc HG10.out.trio.mem hf11 (by simp)
          have HG11 : Hid (Go3 w (fun _ => 0) B #[.int .i64 3, .int .i64 2, .int .i64 0, .int .u32 0] p pm pr (tIt a v e (k + 1)) w11 o11) := hid ⟨hh1, hh2, hh3, ht11⟩
          clear hf11 ht11 hh1 hh2 hh3
          go_wp2
          go_roundw
          case rel => exact ⟨k + 1, o11, hk1, by go_num, by go_num, HG11⟩
          case measure => exact meas70 hk70'
      · have hk2 : k = tJ v e + 1 := Nat.le_antisymm hk (Nat.lt_of_not_le hlt)
        subst hk2
        clear hlt hk
        have L1 := hid HN.out.1
        have L2 := hid HN.out.2.1
        have L3 := hid HN.out.2.2.2.2
        go_wp2_with fail
        go_at_call 17
        refine (trio_step 1 p 3 pm 6 pr (tIt a v e (tJ v e + 1)) _ o7 HG7.out.trio (by decide) L2.out).mono ?_
        rintro e1 w8 ⟨rfl, o8, hf8, ht8⟩
        rw [L1.out]
        have HG8 := hid (Go3.mk (HG7.out.way.next hf8 (by simp [TS])) ht8)
        clear hf8 ht8
        obtain ⟨q0, q1, q2⟩ := tJ_q v0.1 v0.2 e0.1
        have hagg : ∀ w, (binOp .eql 34 (.agg #[.int .i64 1, .int .i64 1]) (.agg #[.int .i64 1, .int .i64 1])).run Try.prog w = .ok (.bool true) w := fun _ => by kernel_rfl
        go_wp2_with (go_at_call 20
                     refine (el_state 1 p _ _ o8 HG8.out.trio.el).mono ?_
                     rintro e1 w9 ⟨rfl, hb9⟩
                     rw [L3.out]
                     have HB9 := hid hb9
                     clear hb9)
        go_ret
        exact ⟨rfl, (HG8.out.way.fr.trans (Fr.of_below HB9.out [] o8) (by simp)).below (by simp [TS])⟩
end Go.Proofs.Ytkilpnfgpepfmaa
