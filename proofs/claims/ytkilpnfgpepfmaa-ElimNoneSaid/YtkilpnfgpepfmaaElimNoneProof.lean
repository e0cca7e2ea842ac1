/- hatstandlaw12.ElimNone returns true for every input, and leaves its input as it was. No condition. -/
import Derived.Test.YtkilpnfgpepfmaaRows
import Derived.WalkKit
import Derived.ProofKit
import Derived.OpenShut
import Derived.ShutString
import Derived.ChangeOld
import Derived.Below
import Derived.Lib.SmallJoins
import Derived.Test.YtkilpnfgpepfmaaNoneB
import Derived.Test.YtkilpnfgpepfmaaNoneC
set_option linter.unusedSimpArgs false
set_option linter.unusedVariables false
set_option linter.unusedSectionVars false
namespace Go.Proofs.Ytkilpnfgpepfmaa.elimNone
open Go.ChangeShapes Go.WideShapes Go.ChangeAt Go.RowKit Go.Joins
set_option linter.unusedVariables false

theorem own : ownKnob Try.prog.godebug = none := by kernel_rfl
theorem laidOut : laidOutB Try.prog = true := by kernel_rfl
theorem cellsS : Try.prog.cellsOf 34 = 2 := by kernel_rfl

theorem walk (a0 R E : Int) (a2 : Bool) (w : World) (w0 : (Lit.int .i64 a0).wf = true) (wR : (Lit.int .i64 R).wf = true) (wE : (Lit.int .i64 E).wf = true) :
    Calls Try.prog 6 #[.int .i64 a0, .agg #[.int .i64 R, .int .i64 E], .bool a2] w fun e w' => e = .returned (.bool true) ∧ Below w.heap.size w w' := by
  have b0 := bounds_i64 w0
  have bR := bounds_i64 wR
  have s0 : -9223372036854775808 ≤ a0 := by omega
  have s1 : a0 < 9223372036854775808 := by omega
  have r0 : -9223372036854775808 ≤ R := by omega
  have r1 : R < 9223372036854775808 := by omega
  obtain ⟨n, hn⟩ : ∃ n, Go.Proofs.Ytkilpnfgpepfmaa.pick a0 17 = n := ⟨_, rfl⟩
  cases a1 : decide (0 < n) with
  | false => exact none_v1 a0 n R E a2 w s0 s1 r0 r1 hn a1
  | true =>
    cases h2 : decide (1 ≤ R) with
    | false => exact none_v2 a0 n R E a2 w s0 s1 r0 r1 hn a1 h2
    | true =>
      cases h3 : decide (R ≤ n) with
      | false => exact none_v3 a0 n R E a2 w s0 s1 r0 r1 hn a1 h2 h3
      | true =>
        cases h4 : decide (0 ≤ E) with
        | false => exact none_v4 a0 n R E a2 w s0 s1 r0 r1 hn a1 h2 h3 h4
        | true =>
          cases h5 : decide (E ≤ 6) with
          | false => exact none_v5 a0 n R E a2 w s0 s1 r0 r1 hn a1 h2 h3 h4 h5
          | true => exact none_v0 a0 n R E a2 w s0 s1 r0 r1 hn a1 h2 h3 h4 h5

set_option maxRecDepth 100000 in
theorem lifted (os : Os) (started : os.Started) (H : Type) (enc : TypeId × Value → H) :
    ReturnsInHanded {} Try.checked os 6 .any (Rows.elimNoneSpec.pre6 enc Try.prog Try.f6 Rows.elimNoneRow.domain false) (Rows.elimNoneSpec.post enc Try.prog Try.f6 false true false false) := by
  refine returnsInHanded_of_change (C := Try.checked) own started (by kernel_rfl) Try.func6
    (ChangeSpec.witness6 (enc := enc) (C := Try.checked) false ⟨#[], #[.int .i64 0, .agg #[.int .i64 0, .int .i64 0], .bool false], []⟩ 8 (by kernel_rfl) (by kernel_rfl) (by kernel_rfl) (by kernel_rfl)) ?_
  intro W base args ds gs before hval0 hW hcnd _
  have hval : ∀ (j : Nat) t v, Try.f6.params[j]? = some t → args[j]? = some v → Value.okWide Try.prog W .any base t v := hval0
  have hW' := hW
  obtain ⟨p, q, hA0, hV, rfl, hfz, hnd⟩ := hW
  have hA : DataW.TrodAll enc Try.prog W 0 (fun _ => true) true Try.f6.params.toList args.toList ds p := hA0
  rw [Try.params6] at hA hval
  obtain ⟨v0, vs0, d0, ds0, p0, q0, hargs, rfl, rfl, h0, r0⟩ := trodAll_cons hA
  obtain ⟨v1, vs1, d1, ds1, p1, q1, rfl, rfl, rfl, h1, r1⟩ := trodAll_cons r0
  obtain ⟨v2, vs2, d2, ds2, p2, q2, rfl, rfl, rfl, h2, r2⟩ := trodAll_cons r1
  obtain ⟨rfl, rfl, rfl⟩ := trodAll_nil r2
  obtain rfl : args = #[v0, v1, v2] := by cases args; simp_all
  obtain ⟨rfl, rfl⟩ := trodVars_none hV
  obtain ⟨a0, rfl, rfl, rfl, w0⟩ := open_int Try.underlying3 (hval 0 3 v0 rfl rfl) h0
  have k1 := h1
  have lt1 : ∀ x ∈ p1, x.block < W.heap.size := by obtain ⟨m, hm⟩ := k1; exact DataW.trod_lt m _ _ _ hm
  obtain ⟨R, E, wR, wE, rfl⟩ : ∃ R E : Int, (Lit.int .i64 R).wf = true ∧ (Lit.int .i64 E).wf = true ∧ v1 = .agg #[.int .i64 R, .int .i64 E] := by
    obtain ⟨c0, c1, y0, y1, m, rfl, _, _, hy0, hy1⟩ := open_agg2 Try.underlying34 (by kernel_rfl) cellsS (hval 1 34 v1 rfl rfl) h1
    obtain ⟨a, e0, _, wa⟩ := DataW.trod_int Try.underlying3 hy0
    obtain ⟨b, e1, _, wb⟩ := DataW.trod_int Try.underlying3 hy1
    simp at e0 e1
    subst e0 e1
    exact ⟨a, b, wa, wb, rfl⟩
  obtain ⟨a2, rfl, rfl, rfl⟩ := open_bool Try.underlying4 (hval 2 4 v2 rfl rfl) h2
  clear hA0 hval0
  simp only [List.append_nil] at hW'
  refine (walk a0 R E a2 W w0 wR wE).mono fun e W' ⟨he, bel⟩ => ?_
  subst he
  exact ⟨_, rfl, _, _, _, [], _, [], hW', trodAll_mk1 (shut_bool Try.underlying4 _), (trodAll_cons_mk (shut_int Try.underlying3 w0) (trodAll_cons_mk (Below.trod laidOut (by kernel_rfl) (of_decide_eq_true (by kernel_rfl)) k1 bel lt1) (trodAll_cons_mk (shut_bool Try.underlying4 _) trodAll_mk0))), rfl, bel.frame _, fun h => by cases h⟩

theorem over : Rows.elimNoneRow.holds Try.pinned (OpenSpec.ofChange Rows.elimNoneSpec) :=
  OpenClaim.holds_of_wide 6 Try.f6 rfl rfl rfl rfl rfl rfl rfl ⟨rfl, rfl, rfl, rfl, rfl⟩ rfl rfl rfl rfl rfl (by kernel_rfl) Try.func6 (by kernel_rfl)
    (of_decide_eq_true (by kernel_rfl)) (by unfold Func.isWrapper; first | (rw [if_pos (by decide +kernel)]; kernel_rfl) | (rw [if_neg (by decide +kernel)]; exact ⟨rfl, rfl⟩))
    (fun os started H enc _ => lifted os started H enc)

theorem proved : Rows.ElimNoneSaid := over
#print axioms proved
end Go.Proofs.Ytkilpnfgpepfmaa.elimNone
