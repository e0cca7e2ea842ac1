/- sched.New. -/
import Derived.Test.YtkilpnfgpepfmaaSch
set_option linter.unusedSimpArgs false
set_option linter.unusedVariables false
set_option linter.unusedSectionVars false
open Go Go.RowKit Hat
namespace Go.Proofs.Ytkilpnfgpepfmaa
set_option maxHeartbeats 2000000
set_option maxRecDepth 100000

def nils (n : Nat) : List Value := List.replicate n .nilIface
theorem nils_len (n : Nat) : (nils n).length = n := by simp [nils]
theorem make_mach (n : Nat) (hn : n ≤ 8) (w : World) :
    (Instr.makeSlice 135 (.int .i64 (n : Int)) (.int .i64 (n : Int))).run Try.prog w = .ok (.slice (some ⟨w.heap.size, 0, none⟩) n n) (w.alloc (.cells (nils n).toArray 139)) := by
  obtain ⟨i, hi, hz, hsize, hby⟩ := info_parts slT_mach.hi
  have hr := run_make (P := Try.prog) w _ _ i _ slT_mach.ht hi hz .i64 .i64 n n (by omega) (Int.le_refl _) (by rw [hby]; omega) (by omega)
  rw [hr]
  simp only [Int.toNat_natCast, hsize, Nat.mul_one]
  congr 3
  apply Array.ext
  · simp [madeCells, nils]
  · intro j h1 h2
    simp [madeCells, nils, Value.cells, Nat.mod_one]
theorem sl_row {W V : World} {o : Nat → Nat} {g n b : Nat} (hb : Blk V b 139 (nils n).toArray) (ho : o b = g) (hn : n ≤ 8) : Sl g 139 1 (.slice (some ⟨b, 0, none⟩) n n) (nils n) V o := by
  refine ⟨_, _, _, rfl, by rw [nils_len]; omega, .inr ⟨b, _, rfl, ho, hb, Nat.le_refl _, by unfold maxLen; omega, by simp [nils_len], ?_⟩⟩
  rw [List.take_of_length_le]
  simp [nils_len]
theorem schedA {W w1 : World} {o1 o2 : Nat → Nat} {tm tr t pm pr n : Nat} {m : Mem} (hm : IsMem tm pm m W o1) (f : Fr [] W.drew w1 (ext o1 W.heap.size (t + 1)) o2) (hs : IsSrc tr pr ⟨0, []⟩ w1 o2) (hn : n ≤ 8) :
    ∃ o', Fr [] W ((w1.alloc (.cells (nils n).toArray 139)).alloc (.cells #[.pointer (some ⟨pm, 0, none⟩), .pointer (some ⟨pr, 0, none⟩), .slice (some ⟨w1.heap.size, 0, none⟩) n n, .int .i64 0] 137)) o1 o' ∧
      IsSched t (w1.heap.size + 1) pm pr (nils n) 0 ((w1.alloc (.cells (nils n).toArray 139)).alloc (.cells #[.pointer (some ⟨pm, 0, none⟩), .pointer (some ⟨pr, 0, none⟩), .slice (some ⟨w1.heap.size, 0, none⟩) n n, .int .i64 0] 137)) o' ∧
      IsMem tm pm m ((w1.alloc (.cells (nils n).toArray 139)).alloc (.cells #[.pointer (some ⟨pm, 0, none⟩), .pointer (some ⟨pr, 0, none⟩), .slice (some ⟨w1.heap.size, 0, none⟩) n n, .int .i64 0] 137)) o' ∧
      IsSrc tr pr ⟨0, []⟩ ((w1.alloc (.cells (nils n).toArray 139)).alloc (.cells #[.pointer (some ⟨pm, 0, none⟩), .pointer (some ⟨pr, 0, none⟩), .slice (some ⟨w1.heap.size, 0, none⟩) n n, .int .i64 0] 137)) o' := by
  have f0 : Fr [] W w1 o1 o2 := ⟨f.os, f.tape, f.output, f.size, fun b hb => (f.old b hb).trans (ext_old _ hb), fun b hb hn => f.same b hb (by simp)⟩
  have f1 := (Fr.refl [] w1 o2).alloc (.cells (nils n).toArray 139) (t + 1)
  have f2 := f1.alloc (.cells #[.pointer (some ⟨pm, 0, none⟩), .pointer (some ⟨pr, 0, none⟩), .slice (some ⟨w1.heap.size, 0, none⟩) n n, .int .i64 0] 137) t
  have hz : (w1.alloc (.cells (nils n).toArray 139)).heap.size = w1.heap.size + 1 := by simp
  rw [hz] at f2
  refine ⟨_, f0.trans f2 (by simp), ⟨ext_new _ _ _, _, Blk.new' _ _ _ _ (by simp), ?_⟩, Locl.keep IsMem.loc hm (f0.trans f2 (by simp)) (by simp), Locl.keep IsSrc.loc hs f2 (by simp)⟩
  exact sl_row (W := W) ((Blk.new w1 _ _).alloc _) (by rw [ext_old _ (by omega), ext_new]) hn
theorem schedB {W w1 : World} {o1 o2 : Nat → Nat} {tm tr t pm pr n : Nat} {m : Mem} (hm : IsMem tm pm m W o1) (f : Fr [] (W.drew.alloc (.cells (nils n).toArray 139)) w1 (ext o1 W.heap.size (t + 1)) o2) (hs : IsSrc tr pr ⟨0, []⟩ w1 o2) (hn : n ≤ 8) :
    ∃ o', Fr [] W (w1.alloc (.cells #[.pointer (some ⟨pm, 0, none⟩), .pointer (some ⟨pr, 0, none⟩), .slice (some ⟨W.heap.size, 0, none⟩) n n, .int .i64 0] 137)) o1 o' ∧
      IsSched t w1.heap.size pm pr (nils n) 0 (w1.alloc (.cells #[.pointer (some ⟨pm, 0, none⟩), .pointer (some ⟨pr, 0, none⟩), .slice (some ⟨W.heap.size, 0, none⟩) n n, .int .i64 0] 137)) o' ∧
      IsMem tm pm m (w1.alloc (.cells #[.pointer (some ⟨pm, 0, none⟩), .pointer (some ⟨pr, 0, none⟩), .slice (some ⟨W.heap.size, 0, none⟩) n n, .int .i64 0] 137)) o' ∧
      IsSrc tr pr ⟨0, []⟩ (w1.alloc (.cells #[.pointer (some ⟨pm, 0, none⟩), .pointer (some ⟨pr, 0, none⟩), .slice (some ⟨W.heap.size, 0, none⟩) n n, .int .i64 0] 137)) o' := by
  have f0 : Fr [] W (W.drew.alloc (.cells (nils n).toArray 139)) o1 (ext o1 W.heap.size (t + 1)) := ((Fr.refl [] W o1).drew).alloc _ (t + 1)
  have hb : Blk (W.drew.alloc (.cells (nils n).toArray 139)) W.heap.size 139 (nils n).toArray := Blk.new' _ _ _ _ (by simp)
  have f1 := f0.trans f (by simp)
  have f2 := (Fr.refl [] w1 o2).alloc (.cells #[.pointer (some ⟨pm, 0, none⟩), .pointer (some ⟨pr, 0, none⟩), .slice (some ⟨W.heap.size, 0, none⟩) n n, .int .i64 0] 137) t
  have hb1 := f.blk hb (by simp)
  refine ⟨_, f1.trans f2 (by simp), ⟨ext_new _ _ _, _, Blk.new' _ _ _ _ rfl, ?_⟩, Locl.keep IsMem.loc hm (f1.trans f2 (by simp)) (by simp), Locl.keep IsSrc.loc hs f2 (by simp)⟩
  exact sl_row (W := W) (hb1.alloc _) (by rw [ext_old _ hb1.lt, f.own hb, ext_new]) hn

theorem schedNew_ok (t tm tr : Nat) (v : Value) (ws : List Int) (n : Nat) (w : World) (ow : Nat → Nat) (h : Rd 1 v (u64s ws) w) (hw : ∀ x ∈ ws, 0 ≤ x ∧ x < 18446744073709551616) (hl : ws.length ≤ 1024) (h1 : 1 ≤ n) (h8 : n ≤ 8) :
    Calls Try.prog 38 #[v, .int .i64 (n : Int)] w fun e w' => ∃ p pm pr, Post [] w ow (.tuple #[.pointer (some ⟨p, 0, none⟩), .int .i64 0]) (fun w' ow' => IsSched t p pm pr (nils n) 0 w' ow' ∧ IsMem tm pm ⟨ws, []⟩ w' ow' ∧ IsSrc tr pr ⟨0, []⟩ w' ow') e w' := by
  have HN := hid (wnew_ok tm v ws w ow h hw hl)
  have hmk := fun w => make_mach n h8 w
  have d1 : decide ((n : Int) < 1) = false := by simp; omega
  have d2 : decide (8 < (n : Int)) = false := by simp; omega
  clear h hw hl
  go_enter Try.func38, Try.ntmps38
  go_wp2_with (first | (go_at_call 29; refine HN.out.mono ?_; rintro e w1 ⟨pm, rfl, o1, hf1, hm1⟩; have HF1 := hid hf1; have HM1 := hid hm1; clear hf1 hm1))
  go_region_with (go_at_call 14; refine (snew_calls tr _ (ext o1 w1.heap.size (t + 1))).mono ?_; rintro e w2 ⟨pr, rfl, o2, hf2, hs2⟩; have HF2 := hid hf2; have HS2 := hid hs2; clear hf2 hs2)
  all_goals
    go_wp2
    go_ret2
    first
      | (obtain ⟨o', q1, q2, q3, q4⟩ := schedA (t := t) HM1.out HF2.out HS2.out h8
         exact ⟨_, _, _, Post.mk rfl o' (HF1.out.trans q1 (by simp)) ⟨q2, q3, q4⟩⟩)
      | (obtain ⟨o', q1, q2, q3, q4⟩ := schedB (t := t) HM1.out HF2.out HS2.out h8
         exact ⟨_, _, _, Post.mk rfl o' (HF1.out.trans q1 (by simp)) ⟨q2, q3, q4⟩⟩)
theorem schedNew_bad (v : Value) (ws : List Int) (n : Int) (w : World) (ow : Nat → Nat) (h : Rd 1 v (u64s ws) w) (hw : ∀ x ∈ ws, 0 ≤ x ∧ x < 18446744073709551616) (hl : ws.length ≤ 1024) (hn : n < 1 ∨ 8 < n) :
    Calls Try.prog 38 #[v, .int .i64 n] w fun e w' => Post [] w ow (.tuple #[.pointer none, .int .i64 1]) (fun _ _ => True) e w' := by
  have HN := hid (wnew_ok 0 v ws w ow h hw hl)
  clear h hw hl
  cases d1 : decide (n < 1) with
  | true =>
    go_enter Try.func38, Try.ntmps38
    go_wp2_with (first | (go_at_call 29; refine HN.out.mono ?_; rintro e w1 ⟨pm, rfl, o1, hf1, hm1⟩; have HF1 := hid hf1; clear hf1 hm1))
    go_ret2
    exact Post.mk rfl o1 HF1.out trivial
  | false =>
    have d2 : decide (8 < n) = true := by simp only [decide_eq_false_iff_not, decide_eq_true_eq] at *; omega
    go_enter Try.func38, Try.ntmps38
    go_wp2_with (first | (go_at_call 29; refine HN.out.mono ?_; rintro e w1 ⟨pm, rfl, o1, hf1, hm1⟩; have HF1 := hid hf1; clear hf1 hm1))
    go_ret2
    exact Post.mk rfl o1 HF1.out trivial
end Go.Proofs.Ytkilpnfgpepfmaa
