/- hatstandlaw12: shown. -/
import Derived.Test.YtkilpnfgpepfmaaBegun
import Derived.Test.YtkilpnfgpepfmaaElC
set_option linter.unusedSimpArgs false
set_option linter.unusedVariables false
set_option linter.unusedSectionVars false
open Go Go.RowKit Hat
namespace Go.Proofs.Ytkilpnfgpepfmaa
set_option maxHeartbeats 4000000
set_option maxRecDepth 100000

/-- A visit, a memory, a source; a step of the visit. -/
def Trio := El × Mem × Src
def Trio.step (s : Trio) : Trio := (s.1.step s.2.1 s.2.2).2
def Trio.st (s : Trio) : Int := (s.1.step s.2.1 s.2.2).1.1
def Trio.iter (s : Trio) : Nat → Trio
  | 0 => s
  | k + 1 => (s.iter k).step
def Trio.fits (s : Trio) : Bool := decide (s.2.1.ns.length < 1000000000) && match s.1.v with | some v => decide (-8000000000000000000 ≤ v.looks) | none => true
theorem Trio.fits_iff {s : Trio} (h : s.fits = true) : s.2.1.ns.length < 1000000000 ∧ ∀ v, s.1.v = some v → -8000000000000000000 ≤ v.looks := by
  unfold Trio.fits at h
  rw [Bool.and_eq_true, decide_eq_true_eq] at h
  refine ⟨h.1, fun v hv => ?_⟩
  have h2 := h.2
  rw [hv] at h2
  simpa using h2
structure IsTrio (t p tm pm tr pr : Nat) (s : Trio) (w : World) (ow : Nat → Nat) : Prop where
  el : IsEl t p s.1 w ow
  mem : IsMem tm pm s.2.1 w ow
  src : IsSrc tr pr s.2.2 w ow
theorem trio_step (t p tm pm tr pr : Nat) (s : Trio) (w : World) (ow : Nat → Nat) (h : IsTrio t p tm pm tr pr s w ow) (hd : t + 1 < tm ∧ tm + 2 < tr) (hf : s.fits = true) :
    Calls Try.prog 17 #[.pointer (some ⟨p, 0, none⟩), .pointer (some ⟨pm, 0, none⟩), .pointer (some ⟨pr, 0, none⟩)] w
      (Post [t, t + 1, tm, tm + 1, tm + 2, tr, tr + 1] w ow (.tuple #[.int .i64 s.st, .int .u32 (s.1.step s.2.1 s.2.2).1.2]) (IsTrio t p tm pm tr pr s.step)) := by
  have hh := Trio.fits_iff hf
  refine (el_step t p tm pm tr pr s.1 s.2.1 s.2.2 w ow h.el h.mem h.src hd hh.1 hh.2).mono ?_
  rintro e w' ⟨rfl, ow', hf', h1, h2, h3⟩
  exact Post.mk rfl ow' hf' ⟨h1, h2, h3⟩

def cS : Cfg := ⟨3, 4, 0, 0⟩
def sh0 : Trio := (El.new cS ⟨2, 0⟩ true 1 1 0, ⟨fresh cS, []⟩, ⟨0, [7]⟩)
theorem sh_st (k : Nat) (h : k < 3) : (sh0.iter k).st = 0 ∧ (sh0.iter k).fits = true := by
  match k, h with
  | 0, _ => decide
  | 1, _ => decide
  | 2, _ => decide
theorem sh_3 : (sh0.iter 3).st = 4 ∧ (sh0.iter 3).fits = true ∧ (sh0.iter 4).1.place = cS.slot 1 ∧ (sh0.iter 4).1.s.range = 1 ∧ (sh0.iter 4).1.s.exp = 1 := by decide

def TS : List Nat := [1, 2, 3, 4, 5, 6, 7]
/-- A config's block (of no owner), and a frame, on the way. -/
structure Way (w : World) (ow : Nat → Nat) (B : Nat) (cs : Array Value) (W : World) (o : Nat → Nat) : Prop where
  fr : Fr TS w W ow o
  b : Blk W B 26 cs
  ob : o B = 0
theorem Way.next {w W W' : World} {ow o o' : Nat → Nat} {B : Nat} {cs : Array Value} {us : List Nat} (h : Way w ow B cs W o) (hf : Fr us W W' o o') (hu : ∀ t ∈ us, t ∈ TS) : Way w ow B cs W' o' := by
  refine ⟨h.fr.trans hf hu, hf.blk h.b ?_, (hf.own h.b).trans h.ob⟩
  intro hm
  have := hu _ hm
  rw [h.ob] at this
  simp [TS] at this
theorem Way.start (w : World) (ow : Nat → Nat) (cs : Array Value) :
    Way w ow w.heap.size cs (w.alloc (.cells cs 26)) (extAll ow w.heap.size 0) :=
  ⟨(Fr.start TS w ow 0).alloc0 _, Blk.new _ _ _, extAll_new ow (Nat.le_refl _)⟩
theorem IsTrio.loc {t p tm pm tr pr : Nat} {s : Trio} (hd : t + 1 < tm ∧ tm + 2 < tr) {us : List Nat} {w w' : World} {ow ow' : Nat → Nat} (h : IsTrio t p tm pm tr pr s w ow) (hf : Fr us w w' ow ow')
    (hu : ∀ u ∈ us, u < t) : IsTrio t p tm pm tr pr s w' ow' := by
  refine ⟨Locl.keep IsEl.loc h.el hf ?_, Locl.keep IsMem.loc h.mem hf ?_, Locl.keep IsSrc.loc h.src hf ?_⟩ <;>
  · intro x hx hm
    have := hu x hm
    simp at hx
    omega
theorem sh_trio {w1 w2 w3 w4 : World} {o1 o2 o3 o4 : Nat → Nat} {p pm pr : Nat} {s : Trio} {r : Src} (hm : IsMem 3 pm s.2.1 w1 o1) (f2 : Fr [] w1 w2 o1 o2) (f3 : Fr [] w2 w3 o2 o3)
    (he : IsEl 1 p s.1 w3 o3) (f4 : Fr [6, 7] w3 w4 o3 o4) (hs : IsSrc 6 pr r w4 o4) (hr : r = s.2.2) : IsTrio 1 p 3 pm 6 pr s w4 o4 := by
  subst hr
  exact ⟨Locl.keep IsEl.loc he f4 (by simp), Locl.keep IsMem.loc hm ((((f2.trans f3 (by simp)).mono (us := []) (ts := [6, 7]) (by simp))).trans f4 (by simp)) (by simp), hs⟩

structure KeepE (W : World) (B p : Nat) (cs : Array Value) (x : El) (o : Nat → Nat) (w' : World) : Prop where
  c : ∀ i, w'.cell? ⟨B, i, none⟩ = cs[i]?
  e : IsEl 1 p x w' o
  b : Below W.heap.size W w'
  l : B < W.heap.size
theorem KeepE.next {W : World} {B p : Nat} {cs : Array Value} {x : El} {o : Nat → Nat} {w' w'' : World} (h : KeepE W B p cs x o w') (hb : Below w'.heap.size w' w'') : KeepE W B p cs x o w'' :=
  ⟨fun i => ((bcell hb).1 B i (Nat.lt_of_lt_of_le h.l h.b.size)).trans (h.c i), Locl.keep IsEl.loc h.e (Fr.of_below hb [] o) (by simp), below_step h.b hb, h.l⟩
theorem KeepE.start {W : World} {B p : Nat} {cs : Array Value} {x : El} {o : Nat → Nat} (hc : ∀ i, W.cell? ⟨B, i, none⟩ = cs[i]?) (he : IsEl 1 p x W o) (hl : B < W.heap.size) :
    KeepE W B p cs x o { W with drawn := W.drawn + 1 } :=
  ⟨hc, Locl.keep IsEl.loc he (Fr.of_below (below_drew1 W) [] o) (by simp), below_drew1 W, hl⟩

theorem shown_calls (w : World) (ow : Nat → Nat) :
    Calls Try.prog 12 #[] w fun e w' => e = .returned (.bool true) ∧ ∃ ow', Fr TS w w' ow ow' := by
  go_enter Try.func12, Try.ntmps12
  go_upto_region 2 with fail
  have W0 := Way.start w ow #[.int .i64 3, .int .i64 4, .int .i64 0, .int .u32 0]
  have HW0 := hid W0
  have b0 := W0.b.cell
  clear W0
  generalize w.alloc (.cells #[.int .i64 3, .int .i64 4, .int .i64 0, .int .u32 0] 26) = V0 at *
  generalize w.heap.size = B at *
  generalize extAll ow B 0 = o0 at *
  go_wp2_with (first
    | (go_at_call 13
       refine (begun_calls cS (by decide) (by decide) (by decide) 3 _ o0).mono ?_
       rintro e w1 ⟨pm, rfl, o1, hf1, hm1⟩
       have W1 := HW0.out.next hf1 (by simp)
       have b1 := W1.b.cell
       have HW1 := hid W1
       have HM1 := hid hm1
       clear hf1 W1 hm1)
    | (go_at_call 14
       refine (snew_calls 6 _ o1).mono ?_
       rintro e w2 ⟨pr, rfl, o2, hf2, hs2⟩
       have W2 := HW1.out.next hf2 (by simp)
       have b2 := W2.b.cell
       have HW2 := hid W2
       have HS2 := hid hs2
       have HF2 := hid hf2
       clear hf2 W2 hs2)
    | (go_at_call 15
       refine (elnew_calls 1 cS ⟨2, 0⟩ true 1 1 0 _ o2 ⟨by decide, by decide, by decide, by decide, by decide, by decide, by decide, by decide⟩).mono ?_
       rintro e w3 ⟨p, rfl, o3, hf3, he3⟩
       have W3 := HW2.out.next hf3 (by simp)
       have b3 := W3.b.cell
       have HW3 := hid W3
       have HE3 := hid he3
       have HF3 := hid hf3
       have HS3 := hid (Locl.keep IsSrc.loc HS2.out hf3 (by simp))
       clear hf3 W3 he3)
    | (go_at_call 23
       refine (add_calls 6 pr ⟨0, []⟩ 7 _ o3 HS3.out (by decide) (by decide) (by decide)).mono ?_
       rintro e w4 ⟨rfl, o4, hf4, hs4⟩
       have W4 := HW3.out.next hf4 (by simp [TS])
       have b4 := W4.b.cell
       have HW4 := hid W4
       have HT4 := hid (sh_trio (s := sh0) HM1.out HF2.out HF3.out HE3.out hf4 hs4 rfl)
       rw [show (Src.add ⟨0, []⟩ 7).1 = 0 from rfl]
       clear hf4 W4 hs4))
  have hagg : ∀ w, (binOp .eql 34 (.agg #[.int .i64 1, .int .i64 1]) (.agg #[.int .i64 1, .int .i64 1])).run Try.prog w = .ok (.bool true) w := fun _ => by kernel_rfl
  clear HW0 b0 HW1 b1 HM1 HW2 HS2 HF2 b2 HW3 b3 HE3 HF3 HS3
  go_loopw [5, 6, 7] (fun i _ _ wr => ∃ (k : Nat) (o : Nat → Nat), k ≤ 3 ∧ i = .int .i64 (k : Int) ∧ Hid (Way w ow B #[.int .i64 3, .int .i64 4, .int .i64 0, .int .u32 0] wr o) ∧ Hid (IsTrio 1 p 3 pm 6 pr (sh0.iter k) wr o))
    (fun i _ _ _ => 3 - (intOf i).toNat)
  case atStart => exact ⟨0, o4, by omega, by simp, HW4, HT4⟩
  case round =>
    clear HW4 HT4 b4
    obtain ⟨k, o, hk, rfl, HW, HT⟩ := hrel
    by_cases hlt : k < 3
    · go_wp2_with (go_at_call 17
                   refine (trio_step 1 p 3 pm 6 pr (sh0.iter k) _ o HT.out (by decide) (sh_st k hlt).2).mono ?_
                   rintro e w5 ⟨rfl, o5, hf5, ht5⟩
                   rw [(sh_st k hlt).1]
                   have HW5 := hid (HW.out.next hf5 (by simp [TS]))
                   have HT5 := hid ht5
                   clear hf5 ht5)
      go_roundw
      case rel => exact ⟨k + 1, o5, by omega, by go_num, HW5, HT5⟩
      case measure => simp [intOf]; omega
    · have h3 : k = 3 := by omega
      subst h3
      go_wp2_with (go_at_call 17
                   refine (trio_step 1 p 3 pm 6 pr (sh0.iter 3) _ o HT.out (by decide) sh_3.2.1).mono ?_
                   rintro e w5 ⟨rfl, o5, hf5, ht5⟩
                   rw [sh_3.1]
                   have HW5 := hid (HW.out.next hf5 (by simp [TS]))
                   have HT5 := hid ht5
                   clear hf5 ht5)
      refine wp_region_class (C := KeepE w5 B p #[.int .i64 3, .int .i64 4, .int .i64 0, .int .u32 0] (sh0.iter 4).1 o5) (by kernel_rfl) (by kernel_rfl) (KeepE.start HW5.out.b.cell HT5.out.el HW5.out.b.lt) ?_
      repeat
        (first
          | go_big_quiet_skip
          | (go_big_quiet_want
             apply Exists.intro
             refine ⟨fun w' hC => ?_, ?_⟩
             focus
               have hcc := hC.c
               unfold Oper.quietAt
               simp [go_sem, hcc, hagg]
               first
                 | rfl
                 | exact ⟨rfl, rfl⟩
                 | (refine (el_place 1 p _ _ o5 hC.e).mono ?_; rintro e1 w1 ⟨rfl, rfl⟩; rw [sh_3.2.2.1]; exact ⟨rfl, hC⟩)
                 | (refine (slot_calls cS 1 _ (by decide) (by decide)).mono ?_; rintro e1 w1 ⟨rfl, hb1⟩; exact ⟨rfl, hC.next hb1⟩)
                 | (refine (el_state 1 p _ _ o5 hC.e).mono ?_; rintro e1 w1 ⟨rfl, hb1⟩; rw [sh_3.2.2.2.1, sh_3.2.2.2.2]; exact ⟨rfl, hC.next hb1⟩)
             simp only [Act.put, List.setIfInBounds_toArray, List.set_cons_zero, List.set_cons_succ]
             go_big_quiet_on))
      refine wpQuiet_nil ?_
      intro w6 hC6
      have HC6 := hid hC6
      clear hC6
      go_wp2
      go_ret
      exact ⟨rfl, o5, HW5.out.fr.trans (Fr.of_below HC6.out.b [] o5) (by simp)⟩
end Go.Proofs.Ytkilpnfgpepfmaa
