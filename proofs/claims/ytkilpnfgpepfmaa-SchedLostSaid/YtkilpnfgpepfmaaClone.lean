/- slices.Clone at words, and wmem's New, Words, Count. -/
import Derived.Test.YtkilpnfgpepfmaaWmem
import Derived.Test.YtkilpnfgpepfmaaRd
import Derived.Lib.SliceRun
set_option linter.unusedSimpArgs false
set_option linter.unusedVariables false
set_option linter.unusedSectionVars false
open Go Go.RowKit Hat
namespace Go.Proofs.Ytkilpnfgpepfmaa
set_option maxHeartbeats 1000000
set_option maxRecDepth 100000

theorem clone_u64 (g : Nat) (v : Value) (xs : List Value) (w : World) (ow : Nat → Nat) (h : Rd 1 v xs w) (hx : xs.length < 10000000000) :
    Calls Try.prog 57 #[v] w fun e w' => ∃ v', Post [] w ow v' (Sl g 22 1 v' xs) e w' := by
  obtain ⟨a, n, c, rfl, hl⟩ := h.form
  have qT : ∀ (w : World) (a : Option Addr) (n c n' c' : Nat), (binOp .eql 39 (.slice a n c) (.slice none n' c')).run Try.prog w = .ok (.bool a.isNone) w := fun w a n c n' c' => Lib.run_eql_slice_nil w _ _ a n c n' c' Try.underlying39
  have H := hid h
  rcases a with _ | ad
  · obtain ⟨a', n', c', e, hl', hn', hc'⟩ := h
    injection e with e1 e2 e3
    subst e1; subst e2; subst e3
    have hn0 := hn' rfl
    subst hn0
    have hx0 : xs = [] := List.eq_nil_of_length_eq_zero (by simpa using hl)
    subst hx0
    clear H hn' hc' hl hl'
    go_enter Try.func57, Try.ntmps57
    go_wp2
    go_ret
    exact ⟨_, Post.mk rfl ow (Fr.refl _ _ _) (Sl.nil _ _ _ _ _ _)⟩
  · clear h
    go_enter Try.func57, Try.ntmps57
    go_wp2_with (at_builtin; refine wpList_append_new slT_u64 g rfl (.tmp 5) (.tmp 6) rfl ow rfl rfl (H.out.keep (keep_alloc _ _)) (by omega) (by decide) ?_; intro a' n' c' w' ow' hs' hf')
    go_ret
    exact ⟨_, Post.mk rfl ow' (((Fr.refl _ _ _).alloc0 _).trans hf' (by simp)) hs'⟩

theorem rd_len {v : Value} {xs : List Value} {w : World} (h : Rd 1 v xs w) : ∃ a c, v = .slice a xs.length c := by
  obtain ⟨a, n, c, rfl, hl, _⟩ := h
  exact ⟨a, c, by rw [hl, Nat.mul_one]⟩

theorem wnew_ok (t : Nat) (v : Value) (ws : List Int) (w : World) (ow : Nat → Nat) (h : Rd 1 v (u64s ws) w) (hw : ∀ x ∈ ws, 0 ≤ x ∧ x < 18446744073709551616) (hl : ws.length ≤ 1024) :
    Calls Try.prog 29 #[v] w fun e w' => ∃ p, Post [] w ow (.tuple #[.pointer (some ⟨p, 0, none⟩), .int .i64 0]) (IsMem t p ⟨ws, []⟩) e w' := by
  obtain ⟨a, c, rfl⟩ := rd_len h
  have H := hid h
  have Hw := hid hw
  rw [length_u64s]
  clear h hw
  have d1 : decide ((1024 : Int) < (ws.length : Int)) = false := by simp; omega
  go_enter Try.func29, Try.ntmps29
  go_wp2_with (go_at_call 57; refine (clone_u64 (t + 1) _ (u64s ws) _ ow (by rw [← length_u64s ws]; exact H.out) (by rw [length_u64s]; omega)).mono ?_; rintro e w1 ⟨v1, rfl, ow1, hf1, hs1⟩; obtain ⟨a1, n1, c1, rfl, hl1⟩ := hs1.form)
  go_ret2
  refine ⟨w1.heap.size, Post.mk rfl (ext ow1 w1.heap.size t) (hf1.alloc _ t) ⟨ext_new _ _ _, Hw.out, hl, .slice a1 n1 c1, .slice none 0 0, Blk.new _ _ _, ?_, Sl.nil _ _ _ _ _ _⟩⟩
  exact Locl.keep Sl.loc hs1 (us := []) ((Fr.refl _ _ _).alloc _ t) (by simp)
theorem wnew_bad (v : Value) (ws : List Int) (w : World) (h : Rd 1 v (u64s ws) w) (hl : 1024 < ws.length) :
    Calls Try.prog 29 #[v] w fun e w' => e = .returned (.tuple #[.pointer none, .int .i64 1]) ∧ w = w' := by
  obtain ⟨a, c, rfl⟩ := rd_len h
  rw [length_u64s]
  clear h
  have d1 : decide ((1024 : Int) < (ws.length : Int)) = true := by simp; omega
  go_enter Try.func29, Try.ntmps29
  go_wp2
  go_ret2
  exact ⟨rfl, rfl⟩

theorem words_calls (g t p : Nat) (m : Mem) (w : World) (ow : Nat → Nat) (h : IsMem t p m w ow) :
    Calls Try.prog 18 #[.pointer (some ⟨p, 0, none⟩)] w fun e w' => ∃ v, Post [] w ow v (Sl g 22 1 v (u64s m.ws)) e w' := by
  obtain ⟨ho, hw, hl, vw, vn, hb, h1, h2⟩ := h
  obtain ⟨a1, n1, c1, rfl, hl1⟩ := h1.form
  have H := hid h1.rd
  obtain ⟨hcp, hfp, hpl⟩ := hb.all
  clear h1 h2 hb
  go_enter Try.func18, Try.ntmps18
  go_wp2_with (go_at_call 57; refine (clone_u64 g _ (u64s m.ws) _ ow H.out (by rw [length_u64s]; omega)).mono ?_; rintro e w1 ⟨v1, rfl, ow1, hf1, hs1⟩; obtain ⟨a1, n1, c1, rfl, hl1⟩ := hs1.form)
  go_ret
  exact ⟨_, Post.mk rfl ow1 hf1 hs1⟩

theorem count_calls (t p : Nat) (m : Mem) (w : World) (ow : Nat → Nat) (h : IsMem t p m w ow) :
    Calls Try.prog 28 #[.pointer (some ⟨p, 0, none⟩)] w fun e w' => e = .returned (.int .i64 m.ns.length) ∧ w = w' := by
  obtain ⟨ho, hw, hl, vw, vn, hb, h1, h2⟩ := h
  obtain ⟨a1, n1, c1, rfl, hl1⟩ := h2.form
  have hn : n1 = m.ns.length := by rw [length_notesV] at hl1; omega
  subst hn
  obtain ⟨hcp, hfp, hpl⟩ := hb.all
  clear h1 h2 hb
  go_enter Try.func28, Try.ntmps28
  go_wp2
  go_ret
  exact ⟨rfl, rfl⟩
end Go.Proofs.Ytkilpnfgpepfmaa
