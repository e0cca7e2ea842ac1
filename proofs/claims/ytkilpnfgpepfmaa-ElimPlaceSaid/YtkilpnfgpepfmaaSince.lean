/- slices.Clone at accesses, and wmem's Since. -/
import Derived.Test.YtkilpnfgpepfmaaClone
import Derived.StillTailTactics
set_option linter.unusedSimpArgs false
set_option linter.unusedVariables false
set_option linter.unusedSectionVars false
open Go Go.RowKit Hat
namespace Go.Proofs.Ytkilpnfgpepfmaa
set_option maxHeartbeats 1000000
set_option maxRecDepth 100000

theorem clone_acc (g : Nat) (v : Value) (xs : List Value) (w : World) (ow : Nat → Nat) (h : Rd 5 v xs w) (hx : xs.length < 1000000000000) :
    Calls Try.prog 59 #[v] w fun e w' => ∃ v', Post [] w ow v' (Sl g 51 5 v' xs) e w' := by
  obtain ⟨a, n, c, rfl, hl⟩ := h.form
  have qT : ∀ (w : World) (a : Option Addr) (n c n' c' : Nat), (binOp .eql 48 (.slice a n c) (.slice none n' c')).run Try.prog w = .ok (.bool a.isNone) w := fun w a n c n' c' => Lib.run_eql_slice_nil w _ _ a n c n' c' Try.underlying48
  have H := hid h
  rcases a with _ | ad
  · obtain ⟨a', n', c', e, hl', hn', hc'⟩ := h
    injection e with e1 e2 e3
    subst e1; subst e2; subst e3
    have hn0 := hn' rfl
    subst hn0
    have hx0 : xs = [] := List.eq_nil_of_length_eq_zero (by simpa using hl)
    subst hx0
    clear H hn' hc' hl hl'
    go_enter Try.func59, Try.ntmps59
    go_wp2
    go_ret
    exact ⟨_, Post.mk rfl ow (Fr.refl _ _ _) (Sl.nil _ _ _ _ _ _)⟩
  · clear h
    go_enter Try.func59, Try.ntmps59
    go_wp2_with (at_builtin; refine wpList_append_new slT_acc g rfl (.tmp 5) (.tmp 6) rfl ow rfl rfl (H.out.keep (keep_alloc _ _)) (by omega) (by decide) ?_; intro a' n' c' w' ow' hs' hf')
    go_ret
    exact ⟨_, Post.mk rfl ow' (((Fr.refl _ _ _).alloc0 _).trans hf' (by simp)) hs'⟩

theorem since_calls (g t p : Nat) (m : Mem) (w : World) (ow : Nat → Nat) (h : IsMem t p m w ow) (hl : m.ns.length < 1000000000) :
    Calls Try.prog 24 #[.pointer (some ⟨p, 0, none⟩), .int .i64 0] w fun e w' => ∃ v, Post [] w ow v (Sl g 51 5 v (notesV m.ns)) e w' := by
  obtain ⟨ho, hw, hlw, vw, vn, hb, h1, h2⟩ := h
  obtain ⟨a1, n1, c1, rfl, hl1⟩ := h2.form
  have hn : n1 = m.ns.length := by rw [length_notesV] at hl1; omega
  subst hn
  have hnc : m.ns.length ≤ c1 := by
    obtain ⟨a, n, c, e, _, ⟨h0, h0'⟩ | ⟨b, cs, _, _, _, hnc, _⟩⟩ := h2
    · injection e with e1 e2 e3; omega
    · injection e with e1 e2 e3; omega
  have hn0 : (if (m.ns.length : Int) < 0 then (m.ns.length : Int) else 0) = 0 := if_neg (by omega)
  have H := hid h2.rd
  obtain ⟨hcp, hfp, hpl⟩ := hb.all
  clear h1 h2 hb
  go_enter Try.func24, Try.ntmps24
  go_wp2
  go_still_tail 13, (by kernel_rfl)
  change wpList _ _ _ _ _ w.drew
  go_wp2_with (first
    | (go_at_call 59
       refine (clone_acc g _ (notesV m.ns) _ ow (H.out.keep (w' := w.drew) (fun _ _ h => h)) (by rw [length_notesV]; omega)).mono ?_
       rintro e w1 ⟨v1, rfl, ow1, hf1, hs1⟩
       obtain ⟨a2, n2, c2, rfl, hl2⟩ := hs1.form))
  go_ret
  exact ⟨_, Post.mk rfl ow1 (((Fr.refl [] w ow).drew).trans hf1 (by simp)) hs1⟩
end Go.Proofs.Ytkilpnfgpepfmaa
