/- sched: Begin, Pick. -/
import Derived.Test.YtkilpnfgpepfmaaSchN
import Derived.Deep.RegionHeld3
set_option linter.unusedSimpArgs false
set_option linter.unusedVariables false
set_option linter.unusedSectionVars false
open Go Go.RowKit Hat
namespace Go.Proofs.Ytkilpnfgpepfmaa
set_option maxHeartbeats 2000000
set_option maxRecDepth 100000

theorem IsSched.set {t p pm pr b c : Nat} {th : List Value} {k : Int} {w : World} {ow : Nat → Nat} (h : IsSched t p pm pr th k w ow) (hb : Blk w p 137 #[.pointer (some ⟨pm, 0, none⟩), .pointer (some ⟨pr, 0, none⟩), .slice (some ⟨b, 0, none⟩) th.length c, .int .i64 k])
    (hs : Sl (t + 1) 139 1 (.slice (some ⟨b, 0, none⟩) th.length c) th w ow) (ho : ow b = t + 1) {j : Nat} (hj : j < th.length) (x : Value) :
    IsSched t p pm pr (th.set j x) k (w.setCell ⟨b, j, none⟩ x) ow ∧ Fr [t + 1] w (w.setCell ⟨b, j, none⟩ x) ow ow := by
  have hpb : p ≠ b := by
    intro e
    have := h.op
    rw [e, ho] at this
    omega
  refine ⟨⟨h.op, _, hb.far hpb _, ?_⟩, (Fr.refl _ _ _).setCell (by simp [ho]) _⟩
  exact hs.set1 x hj
theorem IsSched.count {t p pm pr b c : Nat} {th : List Value} {k : Int} {w : World} {ow : Nat → Nat} (h : IsSched t p pm pr th k w ow) (hb : Blk w p 137 #[.pointer (some ⟨pm, 0, none⟩), .pointer (some ⟨pr, 0, none⟩), .slice (some ⟨b, 0, none⟩) th.length c, .int .i64 k])
    (hs : Sl (t + 1) 139 1 (.slice (some ⟨b, 0, none⟩) th.length c) th w ow) :
    IsSched t p pm pr th (k + 1) (w.setCell ⟨p, 3, none⟩ (.int .i64 (k + 1))) ow ∧ Fr [t] w (w.setCell ⟨p, 3, none⟩ (.int .i64 (k + 1))) ow ow := by
  have f : Fr [t] w (w.setCell ⟨p, 3, none⟩ (.int .i64 (k + 1))) ow ow := (Fr.refl _ _ _).setCell (by simp [h.op]) _
  exact ⟨⟨h.op, _, hb.set' 3 _ _ rfl, Locl.keep Sl.loc hs f (by simp)⟩, f⟩

theorem begin_none (t p pm pr : Nat) (th : List Value) (k i : Int) (x : Value) (w : World) (ow : Nat → Nat) (h : IsSched t p pm pr th k w ow) (hne : th ≠ []) (hl : th.length ≤ 8) (hi : ¬ (0 ≤ i ∧ i < th.length)) :
    Calls Try.prog 39 #[.pointer (some ⟨p, 0, none⟩), .int .i64 i, x] w fun e w' => e = .returned (.int .i64 4) ∧ w = w' := by
  have HT := hid (there_calls t p pm pr th k i w ow h hne hl)
  have E0 := hid (show decide (0 ≤ i ∧ i < (th.length : Int)) = false from decide_eq_false hi)
  clear h hi
  go_enter Try.func39, Try.ntmps39
  go_wp2_with (first | (go_at_call 71; refine HT.out.mono ?_; rintro e w' ⟨rfl, rfl⟩; rw [E0.out]))
  go_ret
  exact ⟨rfl, rfl⟩
theorem begin_busy (t p pm pr : Nat) (th : List Value) (k i : Int) (x : Value) (w : World) (ow : Nat → Nat) (h : IsSched t p pm pr th k w ow) (hne : th ≠ []) (hl : th.length ≤ 8) (hi : 0 ≤ i ∧ i < th.length)
    (hm : ∀ x ∈ th, x = .nilIface ∨ ∃ T v, x = .iface T v) (hb : busyAt th i = true) :
    Calls Try.prog 39 #[.pointer (some ⟨p, 0, none⟩), .int .i64 i, x] w fun e w' => e = .returned (.int .i64 5) ∧ w = w' := by
  have HT := hid (there_calls t p pm pr th k i w ow h hne hl)
  have HB := hid (busy_calls t p pm pr th k i w ow h hne hl (by omega) hm)
  have E0 := hid (show decide (0 ≤ i ∧ i < (th.length : Int)) = true from decide_eq_true hi)
  have E1 := hid hb
  clear h hi hm hb
  go_enter Try.func39, Try.ntmps39
  go_wp2_with (first
    | (go_at_call 71; refine HT.out.mono ?_; rintro e w' ⟨rfl, rfl⟩; rw [E0.out])
    | (go_at_call 42; refine HB.out.mono ?_; rintro e w' ⟨rfl, rfl⟩; rw [E1.out]))
  go_ret
  exact ⟨rfl, rfl⟩
theorem begin_nil (t p pm pr : Nat) (th : List Value) (k i : Int) (w : World) (ow : Nat → Nat) (h : IsSched t p pm pr th k w ow) (hne : th ≠ []) (hl : th.length ≤ 8) (hi : 0 ≤ i ∧ i < th.length)
    (hm : ∀ x ∈ th, x = .nilIface ∨ ∃ T v, x = .iface T v) (hb : busyAt th i = false) :
    Calls Try.prog 39 #[.pointer (some ⟨p, 0, none⟩), .int .i64 i, .nilIface] w fun e w' => e = .returned (.int .i64 1) ∧ w = w' := by
  have HT := hid (there_calls t p pm pr th k i w ow h hne hl)
  have HB := hid (busy_calls t p pm pr th k i w ow h hne hl (by omega) hm)
  have E0 := hid (show decide (0 ≤ i ∧ i < (th.length : Int)) = true from decide_eq_true hi)
  have E1 := hid hb
  have hq := eql_nil
  clear h hi hm hb
  go_enter Try.func39, Try.ntmps39
  go_wp2_with (first
    | (go_at_call 71; refine HT.out.mono ?_; rintro e w' ⟨rfl, rfl⟩; rw [E0.out])
    | (go_at_call 42; refine HB.out.mono ?_; rintro e w' ⟨rfl, rfl⟩; rw [E1.out]))
  go_ret
  exact ⟨rfl, rfl⟩
theorem begin_ok (t p pm pr : Nat) (th : List Value) (k : Int) (j : Nat) (T : TypeId) (x u : Value) (w : World) (ow : Nat → Nat) (h : IsSched t p pm pr th k w ow) (hl : th.length ≤ 8) (hj : j < th.length)
    (hm : ∀ x ∈ th, x = .nilIface ∨ ∃ T v, x = .iface T v) (hb : busyAt th (j : Int) = false) :
    Calls Try.prog 39 #[.pointer (some ⟨p, 0, none⟩), .int .i64 (j : Int), .iface T x] w (Post [t + 1] w ow (.int .i64 0) (IsSched t p pm pr (th.set j (.iface T x)) k)) := by
  have hne : th ≠ [] := by intro e; subst e; simp at hj
  have HT := hid (there_calls t p pm pr th k j w ow h hne hl)
  have HB := hid (busy_calls t p pm pr th k j w ow h hne hl (by omega) hm)
  have E0 := hid (show decide (0 ≤ (j : Int) ∧ (j : Int) < (th.length : Int)) = true from decide_eq_true (by omega))
  have E1 := hid hb
  have hq := eql_mach T x
  obtain ⟨b, c, hbk, hc, hf, hlt, ho, hs⟩ := h.open_ hne
  have hcp := hbk.cell
  have hcj := hc j _ (List.getElem?_eq_getElem hj)
  have hj0 : (0 : Int) ≤ (j : Int) := by omega
  have hj1 : (j : Int) < (th.length : Int) := by omega
  have HZ := hid (h.set hbk hs ho hj (.iface T x))
  clear h hbk hc hs hm hb ho
  go_enter Try.func39, Try.ntmps39
  go_wp2_with (first
    | (go_at_call 71; refine HT.out.mono ?_; rintro e w' ⟨rfl, rfl⟩; rw [E0.out])
    | (go_at_call 42; refine HB.out.mono ?_; rintro e w' ⟨rfl, rfl⟩; rw [E1.out]))
  go_ret
  exact Post.mk rfl ow HZ.out.2 HZ.out.1

theorem pick_none (t p pm pr : Nat) (th : List Value) (k i : Int) (w : World) (ow : Nat → Nat) (h : IsSched t p pm pr th k w ow) (hne : th ≠ []) (hl : th.length ≤ 8) (hi : ¬ (0 ≤ i ∧ i < th.length)) :
    Calls Try.prog 40 #[.pointer (some ⟨p, 0, none⟩), .int .i64 i] w fun e w' => e = .returned (.tuple #[.int .i64 0, .int .u64 0, .int .i64 4]) ∧ w = w' := by
  have HT := hid (there_calls t p pm pr th k i w ow h hne hl)
  have E0 := hid (show decide (0 ≤ i ∧ i < (th.length : Int)) = false from decide_eq_false hi)
  clear h hi
  go_enter Try.func40, Try.ntmps40
  go_wp2_with (first | (go_at_call 71; refine HT.out.mono ?_; rintro e w' ⟨rfl, rfl⟩; rw [E0.out]))
  go_ret3
  exact ⟨rfl, rfl⟩
theorem pick_idle (t p pm pr : Nat) (th : List Value) (k i : Int) (w : World) (ow : Nat → Nat) (h : IsSched t p pm pr th k w ow) (hne : th ≠ []) (hl : th.length ≤ 8) (hi : 0 ≤ i ∧ i < th.length)
    (hm : ∀ x ∈ th, x = .nilIface ∨ ∃ T v, x = .iface T v) (hb : busyAt th i = false) :
    Calls Try.prog 40 #[.pointer (some ⟨p, 0, none⟩), .int .i64 i] w fun e w' => e = .returned (.tuple #[.int .i64 0, .int .u64 0, .int .i64 6]) ∧ w = w' := by
  have HT := hid (there_calls t p pm pr th k i w ow h hne hl)
  have HB := hid (busy_calls t p pm pr th k i w ow h hne hl (by omega) hm)
  have E0 := hid (show decide (0 ≤ i ∧ i < (th.length : Int)) = true from decide_eq_true hi)
  have E1 := hid hb
  clear h hi hm hb
  go_enter Try.func40, Try.ntmps40
  go_wp2_with (first
    | (go_at_call 71; refine HT.out.mono ?_; rintro e w' ⟨rfl, rfl⟩; rw [E0.out])
    | (go_at_call 42; refine HB.out.mono ?_; rintro e w' ⟨rfl, rfl⟩; rw [E1.out]))
  go_ret3
  exact ⟨rfl, rfl⟩

/-- The threads behind a step that told st. -/
def freed (th : List Value) (j : Nat) (st : Int) : List Value := if st = 0 then th else th.set j .nilIface
theorem freed_0 (th : List Value) (j : Nat) : freed th j 0 = th := rfl
theorem freed_1 (th : List Value) (j : Nat) {st : Int} (h : st ≠ 0) : freed th j st = th.set j .nilIface := if_neg h
theorem fr_cells {us : List Nat} {w w' : World} {ow ow' : Nat → Nat} (h : Fr us w w' ow ow') {b : Nat} (hb : b < w.heap.size) (hn : ow b ∉ us) : (∀ i, w'.cell? ⟨b, i, none⟩ = w.cell? ⟨b, i, none⟩) ∧ (∀ i, w'.frozen? ⟨b, i, none⟩ = w.frozen? ⟨b, i, none⟩) := by
  have e := h.same b hb hn
  refine ⟨fun i => ?_, fun i => ?_⟩
  · simp [World.cell?, e]
  · simp [World.frozen?, e]
theorem sched_kept {t p pm pr b c j : Nat} {th : List Value} {x : Value} {k : Int} {us : List Nat} {W w2 : World} {ow o2 : Nat → Nat} (h : IsSched t p pm pr th k W ow) (hb : Blk W p 137 #[.pointer (some ⟨pm, 0, none⟩), .pointer (some ⟨pr, 0, none⟩), .slice (some ⟨b, 0, none⟩) th.length c, .int .i64 k])
    (hs : Sl (t + 1) 139 1 (.slice (some ⟨b, 0, none⟩) th.length c) th W ow) (ho : ow b = t + 1) (hx : th[j]? = some x) (hu : t ∉ us ∧ t + 1 ∉ us) (hf : Fr us W.drew w2 ow o2) :
    IsSched t p pm pr th k w2 o2 ∧ Blk w2 p 137 #[.pointer (some ⟨pm, 0, none⟩), .pointer (some ⟨pr, 0, none⟩), .slice (some ⟨b, 0, none⟩) th.length c, .int .i64 k] ∧
    Sl (t + 1) 139 1 (.slice (some ⟨b, 0, none⟩) th.length c) th w2 o2 ∧ o2 b = t + 1 ∧ (∀ i, w2.frozen? ⟨b, i, none⟩ = false) ∧ b < w2.heap.size ∧
    (∀ i, w2.cell? ⟨p, i, none⟩ = (#[.pointer (some ⟨pm, 0, none⟩), .pointer (some ⟨pr, 0, none⟩), .slice (some ⟨b, 0, none⟩) th.length c, .int .i64 k] : Array Value)[i]?) ∧ w2.cell? ⟨b, j, none⟩ = some x := by
  have hne : th ≠ [] := by intro e; subst e; simp at hx
  have hf0 : Fr us W w2 ow o2 := ⟨hf.os, hf.tape, hf.output, hf.size, hf.old, hf.same⟩
  obtain ⟨b', n, c', e, hl, ho', hlt, hc, hfz⟩ := hs.cells hne
  injection e with e1 e2 e3
  injection e1 with e1
  injection e1 with e1
  subst e1
  have hk := fr_cells hf0 hlt (by rw [ho]; exact hu.2)
  have hb2 := hf0.blk hb (by rw [h.op]; exact hu.1)
  refine ⟨Locl.keep IsSched.loc h hf0 (by intro x hx; simp at hx; rcases hx with rfl | rfl; exact hu.1; exact hu.2), hb2, Locl.keep Sl.loc hs hf0 (by simpa using hu.2), (hf0.old b hlt).trans ho, fun i => (hk.2 i).trans (hfz i), Nat.lt_of_lt_of_le hlt hf0.size, hb2.cell, (hk.1 j).trans (hc j x hx)⟩

/-- A pick that does a step. -/
theorem pick_still (t p pm pr q : Nat) (th : List Value) (k : Int) (j : Nat) (st v : Int) (us : List Nat) (Q : World → (Nat → Nat) → Prop) (w : World) (ow : Nat → Nat) (h : IsSched t p pm pr th k w ow) (hl : th.length ≤ 8) (hj : j < th.length)
    (hm : ∀ x ∈ th, x = .nilIface ∨ ∃ T v, x = .iface T v) (hx : th[j]? = some (.iface 100 (.pointer (some ⟨q, 0, none⟩)))) (k0 : 0 ≤ k) (k1 : k < 1000000000) (hu : t ∉ us ∧ t + 1 ∉ us)
    (hS : ∀ W o, Fr [t] w W ow o → Calls Try.prog 131 #[.pointer (some ⟨q, 0, none⟩), .pointer (some ⟨pm, 0, none⟩), .pointer (some ⟨pr, 0, none⟩)] W (Post us W o (.tuple #[.int .i64 st, .int .u64 v]) Q))
    (hQ : ∀ W W' o o', Q W o → Fr [t + 1] W W' o o' → Q W' o') :
    Calls Try.prog 40 #[.pointer (some ⟨p, 0, none⟩), .int .i64 (j : Int)] w (Post (t :: (t + 1) :: us) w ow (.tuple #[.int .i64 st, .int .u64 v, .int .i64 0])
      (fun w' o' => IsSched t p pm pr (freed th j st) (k + 1) w' o' ∧ Q w' o')) := by
  have hne : th ≠ [] := by intro e; subst e; simp at hj
  have HT := hid (there_calls t p pm pr th k j w ow h hne hl)
  have HB := hid (busy_calls t p pm pr th k j w ow h hne hl (by omega) hm)
  have E0 := hid (show decide (0 ≤ (j : Int) ∧ (j : Int) < (th.length : Int)) = true from decide_eq_true (by omega))
  have E1 := hid (busy_is hx)
  have HQ := hid hQ
  have HSS := hid hS
  clear hQ hS
  obtain ⟨b, c, hbk, hc, hf, hlt, ho, hs⟩ := h.open_ hne
  have hcj := hc j _ hx
  have hcp := hbk.cell
  have hfp := hbk.frozen
  have hj0 : (0 : Int) ≤ (j : Int) := by omega
  have hj1 : (j : Int) < (th.length : Int) := by omega
  have hpl := hbk.lt
  clear hm hc
  go_enter Try.func40, Try.ntmps40
  go_upto_region 6 with (first
    | (go_at_call 71; refine HT.out.mono ?_; rintro e w' ⟨rfl, rfl⟩; rw [E0.out])
    | (go_at_call 42; refine HB.out.mono ?_; rintro e w' ⟨rfl, rfl⟩; rw [E1.out]))
  obtain ⟨h', hf'⟩ := h.count hbk hs
  have HF' := hid hf'
  have HS' := hid h'
  clear h hbk hs HT HB hcj hcp hfp hpl hlt hf ho hf' h'
  generalize w.setCell ⟨p, 3, none⟩ (.int .i64 (k + 1)) = W1 at *
  obtain ⟨b1, c1, hbk, hc, hf, hlt, ho, hs⟩ := HS'.out.open_ hne
  have hcj := hc j _ hx
  have hcp := hbk.cell
  have HK := fun w2 o2 (hf2 : Fr us W1.drew w2 ow o2) => sched_kept (w2 := w2) (o2 := o2) HS'.out hbk hs ho hx hu hf2
  have HK := hid HK
  clear hbk hc hs ho hx hf
  go_region_held3 (fun w' => (∀ i, w'.cell? ⟨p, i, none⟩ = (#[.pointer (some ⟨pm, 0, none⟩), .pointer (some ⟨pr, 0, none⟩), .slice (some ⟨b1, 0, none⟩) th.length c1, .int .i64 (k + 1)] : Array Value)[i]?) ∧ w'.cell? ⟨b1, j, none⟩ = some (.iface 100 (.pointer (some ⟨q, 0, none⟩))))
      (first | exact ⟨hcp, hcj⟩ | exact ⟨hcp2, hcj2⟩ | go_keep)
      ((first
        | (go_at_call 131
           refine (HSS.out W1.drew ow HF'.out.drew).mono ?_
           rintro e w2 ⟨rfl, o2, hf2, hq2⟩
           obtain ⟨k1', k2', k3', k4', hfb2, hlt2, hcp2, hcj2⟩ := HK.out w2 o2 hf2
           have HF2 := hid hf2
           have HQ2 := hid hq2
           have HK1 := hid k1'
           have HK2 := hid k2'
           have HK3 := hid k3'
           have HK4 := hid k4'
           clear hf2 hq2 k1' k2' k3' k4')))
  cases hst : (st != 0) with
  | false =>
    have e0 : st = 0 := by simpa using hst
    subst e0
    go_wp2
    go_ret3
    refine Post.mk rfl o2 ((HF'.out.drew.mono (by simp)).trans HF2.out (by simp +contextual)) ⟨?_, HQ2.out⟩
    rw [freed_0]
    exact HK1.out
  | true =>
    have e0 : st ≠ 0 := by simpa using hst
    have H0 := hid e0
    clear e0
    go_wp2
    go_ret3
    obtain ⟨z1, z2⟩ := HK1.out.set HK2.out HK3.out HK4.out hj .nilIface
    refine Post.mk rfl o2 (((HF'.out.drew.mono (by simp)).trans HF2.out (by simp +contextual)).trans z2 (by simp)) ⟨?_, HQ.out _ _ _ _ HQ2.out z2⟩
    rw [freed_1 _ _ H0.out]
    exact z1

/-- A pick that does a step. -/
theorem pick_adder (t p pm pr q : Nat) (th : List Value) (k : Int) (j : Nat) (st v : Int) (us : List Nat) (Q : World → (Nat → Nat) → Prop) (w : World) (ow : Nat → Nat) (h : IsSched t p pm pr th k w ow) (hl : th.length ≤ 8) (hj : j < th.length)
    (hm : ∀ x ∈ th, x = .nilIface ∨ ∃ T v, x = .iface T v) (hx : th[j]? = some (.iface 90 (.pointer (some ⟨q, 0, none⟩)))) (k0 : 0 ≤ k) (k1 : k < 1000000000) (hu : t ∉ us ∧ t + 1 ∉ us)
    (hS : ∀ W o, Fr [t] w W ow o → Calls Try.prog 130 #[.pointer (some ⟨q, 0, none⟩), .pointer (some ⟨pm, 0, none⟩), .pointer (some ⟨pr, 0, none⟩)] W (Post us W o (.tuple #[.int .i64 st, .int .u64 v]) Q))
    (hQ : ∀ W W' o o', Q W o → Fr [t + 1] W W' o o' → Q W' o') :
    Calls Try.prog 40 #[.pointer (some ⟨p, 0, none⟩), .int .i64 (j : Int)] w (Post (t :: (t + 1) :: us) w ow (.tuple #[.int .i64 st, .int .u64 v, .int .i64 0])
      (fun w' o' => IsSched t p pm pr (freed th j st) (k + 1) w' o' ∧ Q w' o')) := by
  have hne : th ≠ [] := by intro e; subst e; simp at hj
  have HT := hid (there_calls t p pm pr th k j w ow h hne hl)
  have HB := hid (busy_calls t p pm pr th k j w ow h hne hl (by omega) hm)
  have E0 := hid (show decide (0 ≤ (j : Int) ∧ (j : Int) < (th.length : Int)) = true from decide_eq_true (by omega))
  have E1 := hid (busy_is hx)
  have HQ := hid hQ
  have HSS := hid hS
  clear hQ hS
  obtain ⟨b, c, hbk, hc, hf, hlt, ho, hs⟩ := h.open_ hne
  have hcj := hc j _ hx
  have hcp := hbk.cell
  have hfp := hbk.frozen
  have hj0 : (0 : Int) ≤ (j : Int) := by omega
  have hj1 : (j : Int) < (th.length : Int) := by omega
  have hpl := hbk.lt
  clear hm hc
  go_enter Try.func40, Try.ntmps40
  go_upto_region 6 with (first
    | (go_at_call 71; refine HT.out.mono ?_; rintro e w' ⟨rfl, rfl⟩; rw [E0.out])
    | (go_at_call 42; refine HB.out.mono ?_; rintro e w' ⟨rfl, rfl⟩; rw [E1.out]))
  obtain ⟨h', hf'⟩ := h.count hbk hs
  have HF' := hid hf'
  have HS' := hid h'
  clear h hbk hs HT HB hcj hcp hfp hpl hlt hf ho hf' h'
  generalize w.setCell ⟨p, 3, none⟩ (.int .i64 (k + 1)) = W1 at *
  obtain ⟨b1, c1, hbk, hc, hf, hlt, ho, hs⟩ := HS'.out.open_ hne
  have hcj := hc j _ hx
  have hcp := hbk.cell
  have HK := fun w2 o2 (hf2 : Fr us W1.drew w2 ow o2) => sched_kept (w2 := w2) (o2 := o2) HS'.out hbk hs ho hx hu hf2
  have HK := hid HK
  clear hbk hc hs ho hx hf
  go_region_held3 (fun w' => (∀ i, w'.cell? ⟨p, i, none⟩ = (#[.pointer (some ⟨pm, 0, none⟩), .pointer (some ⟨pr, 0, none⟩), .slice (some ⟨b1, 0, none⟩) th.length c1, .int .i64 (k + 1)] : Array Value)[i]?) ∧ w'.cell? ⟨b1, j, none⟩ = some (.iface 90 (.pointer (some ⟨q, 0, none⟩))))
      (first | exact ⟨hcp, hcj⟩ | exact ⟨hcp2, hcj2⟩ | go_keep)
      ((first
        | (go_at_call 130
           refine (HSS.out W1.drew ow HF'.out.drew).mono ?_
           rintro e w2 ⟨rfl, o2, hf2, hq2⟩
           obtain ⟨k1', k2', k3', k4', hfb2, hlt2, hcp2, hcj2⟩ := HK.out w2 o2 hf2
           have HF2 := hid hf2
           have HQ2 := hid hq2
           have HK1 := hid k1'
           have HK2 := hid k2'
           have HK3 := hid k3'
           have HK4 := hid k4'
           clear hf2 hq2 k1' k2' k3' k4')))
  cases hst : (st != 0) with
  | false =>
    have e0 : st = 0 := by simpa using hst
    subst e0
    go_wp2
    go_ret3
    refine Post.mk rfl o2 ((HF'.out.drew.mono (by simp)).trans HF2.out (by simp +contextual)) ⟨?_, HQ2.out⟩
    rw [freed_0]
    exact HK1.out
  | true =>
    have e0 : st ≠ 0 := by simpa using hst
    have H0 := hid e0
    clear e0
    go_wp2
    go_ret3
    obtain ⟨z1, z2⟩ := HK1.out.set HK2.out HK3.out HK4.out hj .nilIface
    refine Post.mk rfl o2 (((HF'.out.drew.mono (by simp)).trans HF2.out (by simp +contextual)).trans z2 (by simp)) ⟨?_, HQ.out _ _ _ _ HQ2.out z2⟩
    rw [freed_1 _ _ H0.out]
    exact z1
end Go.Proofs.Ytkilpnfgpepfmaa
