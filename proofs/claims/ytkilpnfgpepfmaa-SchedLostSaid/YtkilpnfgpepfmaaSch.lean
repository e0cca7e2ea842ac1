/- package sched: what a sched is in the heap; what its small methods answer. -/
import Derived.Test.YtkilpnfgpepfmaaBegun
import Derived.Test.YtkilpnfgpepfmaaSrc
set_option linter.unusedSimpArgs false
set_option linter.unusedVariables false
set_option linter.unusedSectionVars false
open Go Go.RowKit Hat
namespace Go.Proofs.Ytkilpnfgpepfmaa
set_option maxHeartbeats 2000000
set_option maxRecDepth 100000

/-- A sched in block p (owner t), its threads' row of owner t + 1: of each thread its machine, as an interface value. -/
structure IsSched (t p pm pr : Nat) (th : List Value) (k : Int) (w : World) (ow : Nat → Nat) : Prop where
  op : ow p = t
  ex : ∃ v, Blk w p 137 #[.pointer (some ⟨pm, 0, none⟩), .pointer (some ⟨pr, 0, none⟩), v, .int .i64 k] ∧ Sl (t + 1) 139 1 v th w ow
theorem IsSched.loc {t p pm pr : Nat} {th : List Value} {k : Int} : Locl [t, t + 1] (IsSched t p pm pr th k) := by
  intro w w' ow ow' h hr
  obtain ⟨ho, v, hb, hs⟩ := hr
  obtain ⟨hb', ho'⟩ := Locl.of_blk h hb (by simp [ho])
  exact ⟨ho'.trans ho, v, hb', Sl.loc w w' ow ow' (fun b hlt hm => h b hlt (by simp at hm; simp [hm])) hs⟩
theorem slT_mach : SlT Try.prog 135 139 .nilIface 1 16 := ⟨Try.underlying135, by kernel_rfl, rfl, by decide⟩
theorem neq_nil (w : World) : (binOp .neq 139 .nilIface .nilIface).run Try.prog w = .ok (.bool false) w := by kernel_rfl
theorem neq_mach (T : TypeId) (v : Value) (w : World) : (binOp .neq 139 (.iface T v) .nilIface).run Try.prog w = .ok (.bool true) w := by kernel_rfl
theorem eql_nil (w : World) : (binOp .eql 139 .nilIface .nilIface).run Try.prog w = .ok (.bool true) w := by kernel_rfl
theorem eql_mach (T : TypeId) (v : Value) (w : World) : (binOp .eql 139 (.iface T v) .nilIface).run Try.prog w = .ok (.bool false) w := by kernel_rfl

/-- What is there to know for a walk. -/
theorem IsSched.open_ {t p pm pr : Nat} {th : List Value} {k : Int} {w : World} {ow : Nat → Nat} (h : IsSched t p pm pr th k w ow) (hne : th ≠ []) :
    ∃ b c, Blk w p 137 #[.pointer (some ⟨pm, 0, none⟩), .pointer (some ⟨pr, 0, none⟩), .slice (some ⟨b, 0, none⟩) th.length c, .int .i64 k] ∧
      (∀ j u, th[j]? = some u → w.cell? ⟨b, j, none⟩ = some u) ∧ (∀ j, w.frozen? ⟨b, j, none⟩ = false) ∧ b < w.heap.size ∧ ow b = t + 1 ∧ Sl (t + 1) 139 1 (.slice (some ⟨b, 0, none⟩) th.length c) th w ow := by
  obtain ⟨v, hb, hs⟩ := h.ex
  obtain ⟨b, n, c, rfl, hl, ho, hlt, hc, hf⟩ := hs.cells hne
  have : n = th.length := by omega
  subst this
  exact ⟨b, c, hb, hc, hf, hlt, ho, hs⟩

theorem there_calls (t p pm pr : Nat) (th : List Value) (k i : Int) (w : World) (ow : Nat → Nat) (h : IsSched t p pm pr th k w ow) (hne : th ≠ []) (hl : th.length ≤ 8) :
    Calls Try.prog 71 #[.pointer (some ⟨p, 0, none⟩), .int .i64 i] w fun e w' => e = .returned (.bool (decide (0 ≤ i ∧ i < th.length))) ∧ w = w' := by
  obtain ⟨b, c, hb, hc, hf, hlt, ho, hs⟩ := h.open_ hne
  have hcp := hb.cell
  clear h hb hs hc hf ho hne
  by_cases h0 : 0 ≤ i
  · have d0 : decide (0 ≤ i) = true := by simpa using h0
    cases d1 : decide (i < (th.length : Int)) with
    | true =>
      have e : decide (0 ≤ i ∧ i < (th.length : Int)) = true := by simp only [decide_eq_true_eq] at *; exact ⟨h0, d1⟩
      rw [e]
      clear e
      go_enter Try.func71, Try.ntmps71
      go_wp2
      go_ret
      exact ⟨rfl, rfl⟩
    | false =>
      have e : decide (0 ≤ i ∧ i < (th.length : Int)) = false := by simp only [decide_eq_false_iff_not] at *; exact fun hh => d1 hh.2
      rw [e]
      clear e
      go_enter Try.func71, Try.ntmps71
      go_wp2
      go_ret
      exact ⟨rfl, rfl⟩
  · have d0 : decide (0 ≤ i) = false := by simpa using h0
    have e : decide (0 ≤ i ∧ i < (th.length : Int)) = false := by simp only [decide_eq_false_iff_not] at *; exact fun hh => h0 hh.1
    rw [e]
    clear e
    go_enter Try.func71, Try.ntmps71
    go_wp2
    go_ret
    exact ⟨rfl, rfl⟩

/-- Who is busy. -/
def busyAt (th : List Value) (i : Int) : Bool := decide (0 ≤ i ∧ i < th.length) && match th[i.toNat]? with | some .nilIface => false | some _ => true | none => false
theorem busy_out {th : List Value} {i : Int} (h : ¬ (0 ≤ i ∧ i < th.length)) : busyAt th i = false := by
  unfold busyAt
  rw [decide_eq_false h]
  rfl
theorem busy_nil {th : List Value} {j : Nat} (h : th[j]? = some .nilIface) : busyAt th (j : Int) = false := by
  unfold busyAt
  rw [Int.toNat_natCast, h]
  simp
theorem busy_is {th : List Value} {j : Nat} {T : TypeId} {v : Value} (h : th[j]? = some (.iface T v)) : busyAt th (j : Int) = true := by
  have hl : j < th.length := by
    rcases Nat.lt_or_ge j th.length with h1 | h1
    · exact h1
    · rw [List.getElem?_eq_none h1] at h; cases h
  unfold busyAt
  rw [Int.toNat_natCast, h]
  simp [hl]

theorem busy_calls (t p pm pr : Nat) (th : List Value) (k i : Int) (w : World) (ow : Nat → Nat) (h : IsSched t p pm pr th k w ow) (hne : th ≠ []) (hl : th.length ≤ 8) (hi1 : i < 9223372036854775808)
    (hm : ∀ x ∈ th, x = .nilIface ∨ ∃ T v, x = .iface T v) :
    Calls Try.prog 42 #[.pointer (some ⟨p, 0, none⟩), .int .i64 i] w fun e w' => e = .returned (.bool (busyAt th i)) ∧ w = w' := by
  have HT := hid (there_calls t p pm pr th k i w ow h hne hl)
  obtain ⟨b, c, hb, hc, hf, hlt, ho, hs⟩ := h.open_ hne
  have hcp := hb.cell
  by_cases hr : 0 ≤ i ∧ i < th.length
  · obtain ⟨j, rfl⟩ := Int.eq_ofNat_of_zero_le hr.1
    have hj : j < th.length := by omega
    have e0 : decide (0 ≤ (j : Int) ∧ (j : Int) < th.length) = true := decide_eq_true hr
    have hx := List.getElem?_eq_getElem hj
    have hq := hc j _ hx
    have hj0 : (0 : Int) ≤ (j : Int) := hr.1
    have hj1 : (j : Int) < (th.length : Int) := hr.2
    have E0 := hid e0
    rcases hm _ (List.getElem_mem hj) with hn | ⟨T, v, hn⟩
    · rw [hn] at hq hx
      rw [busy_nil hx]
      have hne1 := neq_nil
      clear h hb hs hc hf ho hne hm hx hn hr e0
      go_enter Try.func42, Try.ntmps42
      go_wp2_with (first | (go_at_call 71; refine HT.out.mono ?_; rintro e w' ⟨rfl, rfl⟩; rw [E0.out]))
      go_ret
      exact ⟨rfl, rfl⟩
    · rw [hn] at hq hx
      rw [busy_is hx]
      have hne1 := neq_mach T v
      clear h hb hs hc hf ho hne hm hx hn hr e0
      go_enter Try.func42, Try.ntmps42
      go_wp2_with (first | (go_at_call 71; refine HT.out.mono ?_; rintro e w' ⟨rfl, rfl⟩; rw [E0.out]))
      go_ret
      exact ⟨rfl, rfl⟩
  · rw [busy_out hr]
    have E0 := hid (show decide (0 ≤ i ∧ i < (th.length : Int)) = false from decide_eq_false hr)
    clear h hb hs hc hf ho hne hm hr
    go_enter Try.func42, Try.ntmps42
    go_wp2_with (first | (go_at_call 71; refine HT.out.mono ?_; rintro e w' ⟨rfl, rfl⟩; rw [E0.out]))
    go_ret
    exact ⟨rfl, rfl⟩

theorem schedMem_calls (t p pm pr : Nat) (th : List Value) (k : Int) (w : World) (ow : Nat → Nat) (h : IsSched t p pm pr th k w ow) :
    Calls Try.prog 41 #[.pointer (some ⟨p, 0, none⟩)] w fun e w' => e = .returned (.pointer (some ⟨pm, 0, none⟩)) ∧ w = w' := by
  obtain ⟨v, hb, hs⟩ := h.ex
  have hcp := hb.cell
  clear h hb hs
  go_enter Try.func41, Try.ntmps41
  go_wp2
  go_ret
  exact ⟨rfl, rfl⟩
theorem schedSource_calls (t p pm pr : Nat) (th : List Value) (k : Int) (w : World) (ow : Nat → Nat) (h : IsSched t p pm pr th k w ow) :
    Calls Try.prog 70 #[.pointer (some ⟨p, 0, none⟩)] w fun e w' => e = .returned (.pointer (some ⟨pr, 0, none⟩)) ∧ w = w' := by
  obtain ⟨v, hb, hs⟩ := h.ex
  have hcp := hb.cell
  clear h hb hs
  go_enter Try.func70, Try.ntmps70
  go_wp2
  go_ret
  exact ⟨rfl, rfl⟩
theorem picks_calls (t p pm pr : Nat) (th : List Value) (k : Int) (w : World) (ow : Nat → Nat) (h : IsSched t p pm pr th k w ow) :
    Calls Try.prog 44 #[.pointer (some ⟨p, 0, none⟩)] w fun e w' => e = .returned (.int .i64 k) ∧ w = w' := by
  obtain ⟨v, hb, hs⟩ := h.ex
  have hcp := hb.cell
  clear h hb hs
  go_enter Try.func44, Try.ntmps44
  go_wp2
  go_ret
  exact ⟨rfl, rfl⟩
theorem schedDraw_calls (t p pm tr pr : Nat) (th : List Value) (k : Int) (r : Src) (d : Int) (w : World) (ow : Nat → Nat) (h : IsSched t p pm pr th k w ow) (hs : IsSrc tr pr r w ow) (h0 : 0 ≤ d) (h1 : d < 18446744073709551616) (hn : r.draws.length < 1000000000) :
    Calls Try.prog 45 #[.pointer (some ⟨p, 0, none⟩), .int .u64 d] w (Post [tr, tr + 1] w ow (.int .i64 (r.add d).1) (IsSrc tr pr (r.add d).2)) := by
  obtain ⟨v, hb, hsl⟩ := h.ex
  have hcp := hb.cell
  have HA := hid (add_calls tr pr r d w ow hs h0 h1 hn)
  clear h hb hsl hs
  go_enter Try.func45, Try.ntmps45
  go_wp2_with (first | (go_at_call 23; refine HA.out.mono ?_; rintro e w1 ⟨rfl, ow1, hf1, hs1⟩))
  go_ret
  exact Post.mk rfl ow1 hf1 hs1
end Go.Proofs.Ytkilpnfgpepfmaa
