/- source's Draw: the first draw is taken, the others move up. -/
import Derived.Test.YtkilpnfgpepfmaaSrc
set_option linter.unusedSimpArgs false
set_option linter.unusedVariables false
set_option linter.unusedSectionVars false
open Go Go.RowKit Hat
namespace Hat
section
variable {P : Program} {T E : TypeId} {z : Value} {bytes : Nat}
/-- copy(s, s[1:]) of a slice of one-cell pieces: all but the first move up by one. -/
theorem run_copy_sl (he : SlT P T E z 1 bytes) (ty : TypeId) {t b n c c' : Nat} {A : Option Addr} {x : Value} {xs : List Value} {w : World} {ow : Nat → Nat} (h1 : ∀ u ∈ xs, u.oneCell' = true)
    (hs : Sl t E 1 (.slice (some ⟨b, 0, none⟩) (n + 1) c) (x :: xs) w ow) (hA : A = some ⟨b, 1, none⟩ ∨ n = 0) :
    ∃ w', (Builtin.copy_ #[T, T] ty #[.slice (some ⟨b, 0, none⟩) (n + 1) c, .slice A n c']).run P w = .ok (.int .i64 n) w' ∧ Sl t E 1 (.slice (some ⟨b, 0, none⟩) n c) xs w' ow ∧ Fr [t] w w' ow ow := by
  obtain ⟨i, hi, hz, hsize, hby⟩ := info_parts he.hi
  obtain ⟨a0, n0, c0, hv, hl, ⟨h0, _⟩ | ⟨b', cs, ha, ho, hb, hnc, hm, hcs, ht⟩⟩ := hs
  · injection hv with _ hn _; omega
  · injection hv with ha' hn hc
    subst hn; subst hc
    rw [← ha'] at ha
    injection ha with ha
    injection ha with ha
    subst ha
    have hxs : xs.length = n := by simpa using hl
    have htl : cs.toList.take (n + 1) = x :: xs := by simpa using ht
    have hcells : ∀ j u, xs[j]? = some u → w.cell? ⟨b, 1 + j, none⟩ = some u := by
      intro j u hu
      rw [hb.cell]
      have : (x :: xs)[1 + j]? = some u := by rw [Nat.add_comm]; simpa using hu
      rw [← htl, List.getElem?_take] at this
      split at this
      · simpa using this
      · cases this
    have hmin : Nat.min n (n + 1) = n := by simp
    have hst := run_storeCells_at P b 0 E xs 0 cs w hb (by simp only [hcs, hxs]; omega) h1
    have hfc : (Builtin.firstCells 1 n (.slice A n c')).run P w = .ok xs.toArray w := by
      rcases hA with rfl | hn0
      · exact run_firstCells_some (P := P) w 1 n ⟨b, 1, none⟩ n c' xs (by omega) (fun j u hu => by
          have := hcells j u hu
          have e : (⟨b, 1, none⟩ : Addr).add j = ⟨b, 1 + j, none⟩ := by unfold Addr.add; split <;> simp_all
          rw [e]; exact this)
      · subst hn0
        have hx0 : xs = [] := List.eq_nil_of_length_eq_zero hxs
        subst hx0
        cases A <;> simp [Builtin.firstCells, loadCells, loadCellsFrom]
    refine ⟨w.setRow b (cs.toList.take (0 + 0) ++ xs ++ cs.toList.drop (0 + 0 + xs.length)).toArray, ?_, ⟨_, _, _, rfl, by simpa using hxs, .inr ⟨b, _, rfl, ho, setRow_heap w b cs _ E _ hb, by omega, hm, ?_, ?_⟩⟩, ⟨rfl, rfl, rfl, by simp, fun _ _ => rfl, fun k _ hk => setRow_other w b k _ (fun e => hk (by subst e; simp [ho]))⟩⟩
    · simp [Builtin.copy_, run_underlying he.ht, Go.sizeOf, typeInfo, hi, Builtin.lenOf, hsize, hmin, hfc, hst, goInt]
    · simp only [List.size_toArray, List.length_append, List.length_take, List.length_drop, Array.length_toList]; omega
    · simp [← hxs]

theorem step_copy_sl (he : SlT P T E z 1 bytes) {ops : Array Oper} {o : Oper} {a : Act} {K : Act → World → Prop} {Q : Exit → Act → World → Prop} {F : Prop} (hgd : o.guard = none) (s x : Operand)
    (ho : o.op = .call { callee := .builtin .copy, args := #[s, x], argTypes := #[T, T] })
    {t b n c c' : Nat} {A : Option Addr} {y : Value} {xs : List Value} {w : World} {ow : Nat → Nat} (hsv : a.eval s = .slice (some ⟨b, 0, none⟩) (n + 1) c) (hxv : a.eval x = .slice A n c') (h1 : ∀ u ∈ xs, u.oneCell' = true)
    (hs : Sl t E 1 (.slice (some ⟨b, 0, none⟩) (n + 1) c) (y :: xs) w ow) (hA : A = some ⟨b, 1, none⟩ ∨ n = 0)
    (h : ∀ w', Sl t E 1 (.slice (some ⟨b, 0, none⟩) n c) xs w' ow → Fr [t] w w' ow ow → K (a.put o.dst (.int .i64 n)) w') :
    if Region.wanted o (yielded ops a.tmps) = true then Oper.wp P o a w K Q else F := by
  obtain ⟨w', hr, h2, h3⟩ := run_copy_sl he o.type (c' := c') h1 hs hA
  have hw : Region.wanted o (yielded ops a.tmps) = true := by simp [Region.wanted, hgd]
  rw [if_pos hw]
  unfold Oper.wp execOp
  simp only [ho, resolve, invoke, builtin, Sem.run_bind, Sem.run_pure, Result.andThen_ok, List.map_toArray, List.map_cons, List.map_nil, hsv, hxv, hr]
  exact h w' h2 h3
end
end Hat
namespace Go.Proofs.Ytkilpnfgpepfmaa
set_option maxHeartbeats 1000000
set_option maxRecDepth 100000

theorem draw_calls (t p : Nat) (s : Src) (n : Int) (w : World) (ow : Nat → Nat) (h : IsSrc t p s w ow) (hn1 : n < 9223372036854775808) :
    Calls Try.prog 48 #[.pointer (some ⟨p, 0, none⟩), .int .i64 n] w (Post [t, t + 1] w ow (.int .i64 (s.draw n).1) (IsSrc t p (s.draw n).2)) := by
  by_cases h1 : n < 1
  · have hval : s.draw n = (0, s) := by simp [Src.draw, h1]
    rw [hval]
    have H := hid h
    have d1 : decide (n < 1) = true := by simp [h1]
    clear h hval
    go_enter Try.func48, Try.ntmps48
    go_wp2
    go_ret
    exact Post.mk rfl ow (Fr.refl _ _ _) H.out
  · have d1 : decide (n < 1) = false := by simp [h1]
    cases hdr : s.draws with
    | nil =>
      have hval : s.draw n = (0, s) := by simp [Src.draw, h1, hdr]
      rw [hval]
      have H := hid h
      obtain ⟨ho, hno, hd, a, k, c, hb, hs⟩ := h
      obtain ⟨a', n', c', e, hl⟩ := hs.form
      injection e with e1 e2 e3
      have hk : k = 0 := by rw [length_i64s, hdr] at hl; simp at hl; omega
      subst hk
      obtain ⟨hcp, hfp, hpl⟩ := hb.all
      clear hb hd hs e1 e2 e3 hval hdr hl hno
      go_enter Try.func48, Try.ntmps48
      go_wp2
      go_ret
      exact Post.mk rfl ow (Fr.refl _ _ _) H.out
    | cons d r =>
      have hval : s.draw n = (d % n, { s with draws := r }) := by simp [Src.draw, h1, hdr]
      rw [hval]
      obtain ⟨ho, hno, hd, a, k, c, hb, hs⟩ := h
      rw [hdr] at hs hd
      have hd0 := hd d (by simp)
      obtain ⟨b, n', c', e, hl, hob, hbl, hcb, hfb⟩ := hs.cells (by simp [i64s])
      injection e with e1 e2 e3
      subst e1; subst e2; subst e3
      have hk : k = r.length + 1 := by simpa [i64s] using hl.symm
      subst hk
      have hc0 := hcb 0 (.int .i64 d) (by simp [i64s])
      have hcap : 1 ≤ c ∧ r.length + 1 ≤ c := by
        obtain ⟨_, _, _, e, _, ⟨h0, _⟩ | ⟨_, _, _, _, _, hnc, _⟩⟩ := hs
        · injection e with _ e _; omega
        · injection e with _ e e'; omega
      obtain ⟨hc1, hc2⟩ := hcap
      have Hs := hid hs
      have Hb := hid hb
      have Hd := hid hd
      have Hno := hid hno
      have hpb : p ≠ b := fun e => by subst e; rw [ho] at hob; omega
      have d2 : decide ((r.length : Int) + 1 = 0) = false := by simp; omega
      have d3 : ((r.length : Int) + 1 == 0) = false := by simp; omega
      obtain ⟨hcp, hfp, hpl⟩ := hb.all
      have hlen : r.length < 9223372036854775807 := by
        obtain ⟨_, _, _, e, _, ⟨h0, _⟩ | ⟨_, _, _, _, _, hnc, hm, _⟩⟩ := hs
        · injection e with _ e _; omega
        · injection e with _ e e'; unfold maxLen at hm; omega
      clear hb hs hd hval hdr hl hno hcb
      obtain ⟨q0, q1⟩ := hd0
      go_enter Try.func48, Try.ntmps48
      go_wp2
      have q2 : (1 : Int) ≤ (r.length : Int) + 1 := by omega
      have q3 : (r.length : Int) ≤ (c : Int) := by omega
      have q4 : (0 : Int) ≤ (r.length : Int) := by omega
      have Hc : Hid ((if c = 1 then some (⟨b, 0, none⟩ : Addr) else some ⟨b, 1, none⟩) = some ⟨b, 1, none⟩ ∨ r.length = 0) := hid (by
        by_cases hcc : c = 1
        · exact .inr (by omega)
        · exact .inl (by rw [if_neg hcc]))
      go_region_law (
        (refine step_copy_sl slT_int rfl (.tmp 25) (.tmp 30) rfl (t := t + 1) (b := b) (n := r.length) (c := c) (y := .int .i64 d) (xs := i64s r) (ow := ow) rfl rfl ?_ Hs.out ?_ ?_
         · simp [i64s, Value.oneCell']
         · exact Hc.out
         intro w' hs' hf'
         have hbp' : Blk w' p 109 #[.int .u64 s.now, .slice (some ⟨b, 0, none⟩) (r.length + 1) c] := hf'.blk Hb.out (by simp [ho])
         have Hbp' := hid hbp'
         have hF : Fr [t, t + 1] w w' ow ow := ((Fr.refl _ w ow).drew).trans hf' (by simp)
         obtain ⟨hcp', hfp', hpl'⟩ := hbp'.all
         clear hbp'))
      all_goals go_wp2
      all_goals go_region
      all_goals go_wp2
      all_goals
        go_ret
        refine Post.mk rfl ow (by repeat' (first | (with_reducible exact hF) | (with_reducible refine Fr.drew ?_) | (with_reducible refine Fr.setCell ?_ ?_ _) | (simp [ho]; done))) ⟨ho, Hno.out, fun y hy => Hd.out y (by simp [hy]), _, _, _, Hbp'.out.set' 1 _ _ rfl, ?_⟩
        first
          | (refine Locl.keep Sl.loc hs' (us := [t]) ?_ ?_
             · repeat' (first | (with_reducible exact Fr.refl _ _ _) | (with_reducible refine Fr.drew ?_) | (with_reducible refine Fr.setCell ?_ ?_ _) | (simp [ho]; done))
             · simp)
          | (have hc1 : c = 1 := by assumption
             subst hc1
             refine Locl.keep Sl.loc hs' (us := [t]) ?_ ?_
             · repeat' (first | (with_reducible exact Fr.refl _ _ _) | (with_reducible refine Fr.drew ?_) | (with_reducible refine Fr.setCell ?_ ?_ _) | (simp [ho]; done))
             · simp)
end Go.Proofs.Ytkilpnfgpepfmaa
