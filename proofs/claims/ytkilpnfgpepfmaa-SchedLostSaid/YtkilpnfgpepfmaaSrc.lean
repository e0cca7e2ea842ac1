/- package source: a time, and draws. -/
import Derived.Test.YtkilpnfgpepfmaaClone
import Derived.Deep.RegionLaw
set_option linter.unusedSimpArgs false
set_option linter.unusedVariables false
set_option linter.unusedSectionVars false
open Go Go.RowKit Hat
namespace Go.Proofs.Ytkilpnfgpepfmaa
set_option maxHeartbeats 1000000
set_option maxRecDepth 100000

def i64s (l : List Int) : List Value := l.map (Value.int .i64)
theorem length_i64s (l : List Int) : (i64s l).length = l.length := by simp [i64s]
theorem slT_int : SlT Try.prog 93 3 (.int .i64 0) 1 8 := ⟨Try.underlying93, by kernel_rfl, rfl, by decide⟩

/-- A source: its block p is of owner t, its draws' of t + 1. -/
def IsSrc (t p : Nat) (s : Src) (w : World) (ow : Nat → Nat) : Prop :=
  ow p = t ∧ (0 ≤ s.now ∧ s.now < 18446744073709551616) ∧ (∀ d ∈ s.draws, 0 ≤ d ∧ d < 64) ∧ ∃ a n c, Blk w p 109 #[.int .u64 s.now, .slice a n c] ∧ Sl (t + 1) 3 1 (.slice a n c) (i64s s.draws) w ow
theorem IsSrc.loc {t p : Nat} {s : Src} : Locl [t, t + 1] (IsSrc t p s) := by
  intro w w' ow ow' h hr
  obtain ⟨ho, h1, h2, a, n, c, hb, h3⟩ := hr
  obtain ⟨hb', ho'⟩ := Locl.of_blk h hb (by simp [ho])
  exact ⟨ho'.trans ho, h1, h2, a, n, c, hb', Sl.loc w w' ow ow' (fun b hlt hm => h b hlt (by simp at hm; simp [hm])) h3⟩

theorem snew_calls (t : Nat) (w : World) (ow : Nat → Nat) :
    Calls Try.prog 14 #[] w fun e w' => ∃ p, Post [] w ow (.pointer (some ⟨p, 0, none⟩)) (IsSrc t p ⟨0, []⟩) e w' := by
  go_enter Try.func14, Try.ntmps14
  go_wp2
  go_ret
  exact ⟨_, Post.mk rfl (ext ow w.heap.size t) ((Fr.refl _ _ _).alloc _ t) ⟨ext_new _ _ _, by simp, by simp, none, 0, 0, Blk.new _ _ _, Sl.nil _ _ _ _ _ _⟩⟩

theorem deadline_range (a b : Int) (h0 : 0 ≤ a) (h2 : 0 ≤ b) : 0 ≤ deadline a b ∧ deadline a b < 18446744073709551616 := by unfold deadline; omega
theorem tick_calls (t p : Nat) (s : Src) (n : Int) (w : World) (ow : Nat → Nat) (h : IsSrc t p s w ow) (h0 : 0 ≤ n) (h1 : n < 18446744073709551616) :
    Calls Try.prog 16 #[.pointer (some ⟨p, 0, none⟩), .int .u64 n] w (Post [t] w ow (.tuple #[]) (IsSrc t p (s.tick n))) := by
  obtain ⟨ho, ⟨hn0, hn1⟩, hd, a, k, c, hb, hs⟩ := h
  obtain ⟨hcp, hfp, hpl⟩ := hb.all
  have Hb := hid hb
  have Hd := hid hd
  have hr := hid (deadline_range s.now n hn0 h0)
  clear hb hd
  go_enter Try.func16, Try.ntmps16
  go_wp2_with (go_at_call 50; refine (deadline_calls _ _ _ hn0 hn1 h0 h1).mono ?_; rintro e w1 ⟨rfl, rfl⟩)
  go_returns
  exact Post.mk rfl ow ((Fr.refl _ _ _).setCell (by simp [ho]) _) ⟨ho, hr.out, Hd.out, a, k, c, Hb.out.set' 0 _ _ rfl, Locl.keep Sl.loc hs (us := [t]) ((Fr.refl _ _ _).setCell (by simp [ho]) _) (by simp)⟩

theorem now_calls (t p : Nat) (s : Src) (w : World) (ow : Nat → Nat) (h : IsSrc t p s w ow) :
    Calls Try.prog 51 #[.pointer (some ⟨p, 0, none⟩)] w fun e w' => e = .returned (.int .u64 s.now) ∧ w = w' := by
  obtain ⟨ho, ⟨hn0, hn1⟩, hd, a, k, c, hb, hs⟩ := h
  obtain ⟨hcp, hfp, hpl⟩ := hb.all
  clear hb hd hs
  go_enter Try.func51, Try.ntmps51
  go_wp2
  go_ret
  exact ⟨rfl, rfl⟩
theorem left_calls (t p : Nat) (s : Src) (w : World) (ow : Nat → Nat) (h : IsSrc t p s w ow) :
    Calls Try.prog 25 #[.pointer (some ⟨p, 0, none⟩)] w fun e w' => e = .returned (.int .i64 s.draws.length) ∧ w = w' := by
  obtain ⟨ho, ⟨hn0, hn1⟩, hd, a, k, c, hb, hs⟩ := h
  obtain ⟨a', n', c', e, hl⟩ := hs.form
  injection e with e1 e2 e3
  have hk : k = s.draws.length := by rw [length_i64s] at hl; omega
  subst hk
  obtain ⟨hcp, hfp, hpl⟩ := hb.all
  clear hb hd hs e1 e2 e3
  go_enter Try.func25, Try.ntmps25
  go_wp2
  go_ret
  exact ⟨rfl, rfl⟩

theorem add_calls (t p : Nat) (s : Src) (d : Int) (w : World) (ow : Nat → Nat) (h : IsSrc t p s w ow) (h0 : 0 ≤ d) (h1 : d < 18446744073709551616) (hn : s.draws.length < 1000000000) :
    Calls Try.prog 23 #[.pointer (some ⟨p, 0, none⟩), .int .u64 d] w (Post [t, t + 1] w ow (.int .i64 (s.add d).1) (IsSrc t p (s.add d).2)) := by
  by_cases hd64 : 64 ≤ d
  · have hval : s.add d = (1, s) := by simp [Src.add, hd64]
    rw [hval]
    have H := hid h
    clear h hval
    go_enter Try.func23, Try.ntmps23
    go_wp2
    go_ret
    exact Post.mk rfl ow (Fr.refl _ _ _) H.out
  · have hval : s.add d = (0, { s with draws := s.draws ++ [d] }) := by simp [Src.add, hd64]
    rw [hval]
    obtain ⟨ho, hno, hd, a, k, c, hb, hs⟩ := h
    obtain ⟨hcp, hfp, hpl⟩ := hb.all
    obtain ⟨p1, p2, p3, p4, p5⟩ := lts hpl
    have Hb := hid hb
    have Hd := hid hd
    have Hno := hid hno
    clear hb hd hval hno
    go_enter Try.func23, Try.ntmps23
    go_wp2_with (
      (at_builtin
       refine wpList_append_sl slT_int rfl (.tmp 11) (.tmp 14) rfl (t := t + 1) (v := .slice a k c) (xs := i64s s.draws) (ow := ow) rfl (Locl.keep Sl.loc hs (us := []) ((Fr.refl _ _ _).alloc0 _) (by simp)) ⟨w.heap.size, 0, none⟩ 1 1 rfl [.int .i64 d] rfl ?_ ?_ (by decide) ?_ (by decide) ?_
       · intro j u hu
         rw [addr_add0, World.cell?_alloc_at _ _ _ _ rfl]
         simpa using hu
       · simp [Value.oneCell']
       · rw [length_i64s]; simp only [List.length_cons, List.length_nil]; omega
       intro a' n' c' w' ow' hs' hf'
       have hbp' : Blk w' p 109 #[.int .u64 s.now, .slice a k c] := hf'.blk (Hb.out.alloc _) (by simp [ho])
       have hop' : ow' p = t := by rw [hf'.old p (by simp only [World.size_alloc]; omega)]; exact ho
       have hF : Fr [t, t + 1] w w' ow ow' := ((Fr.refl _ _ _).alloc0 _).trans hf' (by simp)
       have Hbp' := hid hbp'
       obtain ⟨hcp', hfp', hpl'⟩ := hbp'.all
       clear hbp'))
    go_ret
    refine Post.mk rfl ow' (hF.setCell (by simp [hop']) _) ⟨hop', Hno.out, ?_, a', n', c', Hbp'.out.set' 1 _ _ rfl, ?_⟩
    · intro y hy
      rcases List.mem_append.1 hy with hy | hy
      · exact Hd.out y hy
      · simp at hy; subst hy; omega
    · rw [show i64s (s.draws ++ [d]) = i64s s.draws ++ [.int .i64 d] from by simp [i64s]]
      exact Locl.keep Sl.loc hs' (us := [t]) ((Fr.refl _ _ _).setCell (by simp [hop']) _) (by simp)
end Go.Proofs.Ytkilpnfgpepfmaa
