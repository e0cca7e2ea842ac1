/- layout.Fresh: the words of a beginning. -/
import Derived.Test.YtkilpnfgpepfmaaClone
import Derived.Test.YtkilpnfgpepfmaaAt
import Derived.Test.YtkilpnfgpepfmaaPlain
import Derived.Laws.OwnMore
import Derived.Deep.RegionHeld3
import Derived.Deep.CutRange
set_option linter.unusedSimpArgs false
set_option linter.unusedVariables false
set_option linter.unusedSectionVars false
open Go Go.RowKit Hat
namespace Go.Proofs.Ytkilpnfgpepfmaa
set_option maxHeartbeats 2000000
set_option maxRecDepth 100000

def f0 (c : Cfg) : List Int := ((List.replicate c.cells.toNat 0).set 0 (pword 0 c.tag)).set 1 (pword 1 c.tag)
def f1 (c : Cfg) : Nat → List Int
  | 0 => f0 c
  | k + 1 => (f1 c k).set (c.next ((k : Int) + 1)).toNat ((k : Int) + 2)
def f2 (c : Cfg) : Nat → List Int
  | 0 => f1 c (c.nodes - 1).toNat
  | k + 1 => (f2 c k).set (c.slot (k : Int)).toNat (pword 0 c.tag)
def fresh (c : Cfg) : List Int := f2 c c.slots.toNat
theorem f0_len (c : Cfg) : (f0 c).length = c.cells.toNat := by simp [f0]
theorem f1_len (c : Cfg) (k : Nat) : (f1 c k).length = c.cells.toNat := by
  induction k with
  | zero => exact f0_len c
  | succ k ih => simpa [f1] using ih
theorem f2_len (c : Cfg) (k : Nat) : (f2 c k).length = c.cells.toNat := by
  induction k with
  | zero => exact f1_len c _
  | succ k ih => simpa [f2] using ih
theorem fr_reown {w w' : World} {ow : Nat → Nat} (h : Fr [] w w' ow ow) (g : Nat) : Fr [] w w' ow (extAll ow w.heap.size g) :=
  ⟨h.os, h.tape, h.output, h.size, fun _ hb => extAll_old ow hb, h.same⟩
theorem make_u64 (n : Nat) (hn : n ≤ 1024) (w : World) :
    (Instr.makeSlice 39 (.int .i64 (n : Int)) (.int .i64 (n : Int))).run Try.prog w = .ok (.slice (some ⟨w.heap.size, 0, none⟩) n n) (w.alloc (.cells (u64s (List.replicate n 0)).toArray 22)) := by
  obtain ⟨i, hi, hz, hsize, hby⟩ := info_parts slT_u64.hi
  have hr := run_make (P := Try.prog) w _ _ i _ slT_u64.ht hi hz .i64 .i64 n n (by omega) (Int.le_refl _) (by rw [hby]; omega) (by omega)
  rw [hr]
  simp only [Int.toNat_natCast, hsize, Nat.mul_one]
  congr 3
  apply Array.ext
  · simp [madeCells, u64s]
  · intro j h1 h2
    simp [madeCells, u64s, Value.cells, Nat.mod_one]
theorem fresh_w1 {w w1 : World} {ow : Nat → Nat} {T : TypeId} {cs : Array Value} (hb : Below (w.alloc (.cells cs T)).heap.size (w.alloc (.cells cs T)) w1) :
    Blk w1 w.heap.size T cs ∧ Fr [] w w1 ow ow :=
  ⟨(Blk.new w T cs).below hb (Blk.new w T cs).lt, ((Fr.refl [] w ow).alloc0 _).trans (Fr.of_below hb [] ow) (by simp)⟩
theorem fresh_w2 {w w1 w2 : World} {ow : Nat → Nat} {T : TypeId} {cs : Array Value} {B : Nat} (h : Blk w1 B T cs ∧ Fr [] w w1 ow ow) (hb : Below w1.heap.size w1 w2) :
    Blk w2 B T cs ∧ Fr [] w w2 ow ow :=
  ⟨h.1.below hb h.1.lt, h.2.trans (Fr.of_below hb [] ow) (by simp)⟩
theorem fresh_w3 {w w2 : World} {ow : Nat → Nat} {T U : TypeId} {cs rs : Array Value} {B : Nat} (h : Blk w2 B T cs ∧ Fr [] w w2 ow ow) :
    Blk (w2.alloc (.cells rs U)) B T cs ∧ Blk (w2.alloc (.cells rs U)) w2.heap.size U rs ∧ Fr [] w (w2.alloc (.cells rs U)) ow ow ∧ B ≠ w2.heap.size ∧ w.heap.size ≤ w2.heap.size :=
  ⟨h.1.alloc _, Blk.new _ _ _, h.2.alloc0 _, by have := h.1.lt; omega, h.2.size⟩

theorem u64s_set (l : List Int) (k : Nat) (x : Int) : (u64s l).toArray.setIfInBounds k (.int .u64 x) = (u64s (l.set k x)).toArray := by
  simp [u64s, List.map_set]
theorem u64s_at (l : List Int) (k : Nat) (hk : k < l.length) : (u64s l).toArray[k]? = some (.int .u64 (l.getD k 0)) := by
  simp [u64s, hk]
theorem fresh_w4 {W : World} {b N : Nat} {U : TypeId} (h : Blk W b U (u64s (List.replicate N 0)).toArray) (x y : Int) :
    Blk ((W.drew.setCell ⟨b, 0, none⟩ (.int .u64 x)).setCell ⟨b, 1, none⟩ (.int .u64 y)) b U (u64s (((List.replicate N 0).set 0 x).set 1 y)).toArray ∧
    Blk ((W.drew.setCell ⟨b, 1, none⟩ (.int .u64 y)).setCell ⟨b, 0, none⟩ (.int .u64 x)) b U (u64s (((List.replicate N 0).set 0 x).set 1 y)).toArray := by
  refine ⟨(h.drew.set' 0 _ _ (u64s_set _ _ _)).set' 1 _ _ (u64s_set _ _ _), ?_⟩
  rw [List.set_comm _ _ (by decide)]
  exact (h.drew.set' 1 _ _ (u64s_set _ _ _)).set' 0 _ _ (u64s_set _ _ _)

def Lands (A : Act) (R : World → Prop) (e : Exit) (a : Act) (w : World) : Prop := e = .normal ∧ a = A ∧ R w
theorem wp_to {P : Program} {c : Code} {Q : Exit → Act → World → Prop} {a : Act} {w : World} (R : World → Prop)
    (h : ∃ A, c.wp P (Lands A R) a w ∧ ∀ w', R w' → Q .normal A w') : c.wp P Q a w := by
  obtain ⟨A, h1, h2⟩ := h
  refine Code.wp_mono ?_ h1
  rintro e a' w' ⟨rfl, rfl, hr⟩
  exact h2 w' hr
theorem fresh_w5 {w wr w1 : World} {ow : Nat → Nat} {b B : Nat} {T U : TypeId} {cs rs : Array Value} (hb : Blk wr b U rs) (hB : Blk wr B T cs) (hF : Fr [] w wr ow ow) (h : Below wr.heap.size wr w1) :
    Blk w1 b U rs ∧ Blk w1 B T cs ∧ Fr [] w w1 ow ow :=
  ⟨hb.below h hb.lt, hB.below h hB.lt, hF.trans (Fr.of_below h [] ow) (by simp)⟩

theorem fresh_bad (c : Cfg) (h : c.ok = false) (w : World) :
    Calls Try.prog 46 #[.agg #[.int .i64 c.nodes, .int .i64 c.slots, .int .i64 c.holders, .int .u32 c.tag]] w fun e w' =>
      e = .returned (.tuple #[.slice none 0 0, .int .i64 1]) ∧ Below w.heap.size w w' := by
  have hk1 : chk c = 1 := chk_bad h
  go_enter Try.func46, Try.ntmps46
  go_wp2_with (go_at_call 53; refine (check_calls c _).mono ?_; rintro e w1 ⟨rfl, hb1⟩; rw [hk1]; have HB1 := hid (below_step (w := w) (by go_grown) hb1); clear hb1)
  go_ret2
  exact ⟨rfl, HB1.out⟩

theorem fresh_ok (c : Cfg) (h : c.ok = true) (t0 : 0 ≤ c.tag) (t1 : c.tag < 4294967296) (g : Nat) (w : World) (ow : Nat → Nat) :
    Calls Try.prog 46 #[.agg #[.int .i64 c.nodes, .int .i64 c.slots, .int .i64 c.holders, .int .u32 c.tag]] w fun e w' =>
      ∃ v, Post [] w ow (.tuple #[v, .int .i64 0]) (Sl g 22 1 v (u64s (fresh c))) e w' := by
  have hk1 : chk c = 0 := chk_ok h
  obtain ⟨n1, n2, s1, s2, g1, g2⟩ := (ok_iff c).1 h
  have hce : c.cells = 2 + 2 * c.nodes + c.slots + c.holders := by unfold Cfg.cells; rw [if_pos h]
  obtain ⟨N, hN⟩ := Int.eq_ofNat_of_zero_le (show 0 ≤ c.cells by omega)
  have hN1 : 4 ≤ N ∧ N ≤ 1024 := by omega
  have hmk := fun w => make_u64 N hN1.2 w
  have Hce := hid hce
  have HN := hid hN
  clear hce hN
  go_enter Try.func46, Try.ntmps46
  go_wp2_with (first
    | (go_at_call 53; refine (check_calls c _).mono ?_; rintro e w1 ⟨rfl, hb1⟩; rw [hk1]; have Z1 := fresh_w1 (w := w) (ow := ow) hb1; have a1 := Z1.1.cell; have l1 := Z1.1.lt; have HZ1 := hid Z1; clear hb1 Z1)
    | (go_at_call 72; refine (cells_calls c _).mono ?_; rintro e w2 ⟨rfl, hb2⟩; rw [HN.out]; have Z2 := fresh_w2 HZ1.out hb2; have a2 := Z2.1.cell; have l2 := Z2.1.lt; have HZ2 := hid Z2; clear hb2 Z2))
  have Z3 := fresh_w3 (U := 22) (rs := (u64s (List.replicate N 0)).toArray) HZ2.out
  clear a2 l2 HZ2 a1 l1 HZ1
  generalize w2.alloc (.cells (u64s (List.replicate N 0)).toArray 22) = W at *
  generalize w2.heap.size = b at *
  obtain ⟨hB, hb, hF, hne, hlb⟩ := Z3
  have bc := hB.cell
  have r0 : W.cell? ⟨b, 0, none⟩ = some (.int .u64 0) := by rw [hb.cell, u64s_at _ _ (by simp; omega), List.getD_eq_getElem?_getD, List.getElem?_replicate]; split <;> rfl
  have r1 : W.cell? ⟨b, 1, none⟩ = some (.int .u64 0) := by rw [hb.cell, u64s_at _ _ (by simp; omega), List.getD_eq_getElem?_getD, List.getElem?_replicate]; split <;> rfl
  have rf := hb.frozen
  have HB := hid hB
  have Hb := hid hb
  have HF := hid hF
  clear hB hb hF
  go_cut [] from 16 to 25 (fun w' => Hid (Blk w' b 22 (u64s (f0 c)).toArray) ∧ Hid (Blk w' w.heap.size 26 #[.int .i64 c.nodes, .int .i64 c.slots, .int .i64 c.holders, .int .u32 c.tag]) ∧ Hid (Fr [] w w' ow ow))
  case first =>
    go_region_with (go_at_call 73; refine (pWord_calls _ _ _ (by omega) (by omega) (by omega) (by omega)).mono ?_; rintro e w' ⟨rfl, rfl⟩)
    all_goals
      go_wp2_with fail
      go_meet
      case rel =>
        refine ⟨?_, ?_, ?_⟩
        · have hf : f0 c = ((List.replicate N 0).set 0 (pword 0 c.tag)).set 1 (pword 1 c.tag) := by unfold f0; rw [HN.out]; rfl
          rw [hf]
          first
            | exact (fresh_w4 Hb.out _ _).1
            | exact (fresh_w4 Hb.out _ _).2
        · exact ((HB.out.drew).far hne _).far hne _
        · exact (HF.out.drew.setNew hlb _).setNew hlb _
  case rest =>
  clear r0 r1 rf bc HB Hb HF
  clear W
  obtain ⟨Hb, HB, HF⟩ := hcut
  go_wp2
  have Hne := hid hne
  have Hlb := hid hlb
  clear hne hlb
  go_loopw [6] (fun i wr => ∃ k : Nat, (k : Int) + 1 ≤ c.nodes ∧ i = .int .u32 ((k : Int) + 1) ∧ Hid (Blk wr b 22 (u64s (f1 c k)).toArray) ∧ Hid (Blk wr w.heap.size 26 #[.int .i64 c.nodes, .int .i64 c.slots, .int .i64 c.holders, .int .u32 c.tag]) ∧ Hid (Fr [] w wr ow ow))
    (fun i _ => c.nodes.toNat - (intOf i).toNat)
  case atStart => exact ⟨0, by omega, by simp, Hb, HB, HF⟩
  case round =>
    obtain ⟨k, hk, rfl, Hb, HB, HF⟩ := hrel
    have bc := HB.out.cell
    by_cases hlt : (k : Int) + 1 < c.nodes
    · have hnx : c.next ((k : Int) + 1) = ((2 * (k + 1) : Nat) : Int) := by unfold Cfg.next; rw [if_pos ⟨h, by omega, by omega⟩]; omega
      have hjN : 2 * (k + 1) < N := by have := Hce.out; have := HN.out; omega
      have hjl : 2 * (k + 1) < (f1 c k).length := by rw [f1_len, HN.out]; simpa using hjN
      have hf : (f1 c k).set (2 * (k + 1)) ((k : Int) + 2) = f1 c (k + 1) := by simp only [f1]; rw [hnx]; rfl
      have Hf := hid hf
      have Hnx := hid hnx
      have Hjl := hid hjl
      clear hf hnx hjl
      generalize 2 * (k + 1) = j at *
      have hjN' : (j : Int) < (N : Int) := by omega
      go_wp2_with (go_at_call 74
                   refine (next_calls c _ _ (by omega) (by omega)).mono ?_
                   rintro e w1 ⟨rfl, hb1⟩
                   rw [Hnx.out]
                   have Z := fresh_w5 Hb.out HB.out HF.out hb1
                   have rj := Z.1.cell j
                   rw [u64s_at _ _ Hjl.out] at rj
                   have rf := Z.1.frozen j
                   have HZ := hid Z
                   clear Z hb1)
      have hset : (u64s (f1 c k)).toArray.setIfInBounds j (.int .u64 ((k : Int) + 1 + 1)) = (u64s (f1 c (k + 1))).toArray := by rw [show (k : Int) + 1 + 1 = (k : Int) + 2 by omega, u64s_set, Hf.out]
      go_roundw
      case rel => exact ⟨k + 1, by omega, by go_num, hid (HZ.out.1.set' j _ _ hset), hid (HZ.out.2.1.far Hne.out _), hid (HZ.out.2.2.setNew Hlb.out _)⟩
      case measure => simp [intOf]; omega
    · have hk1 : (c.nodes - 1).toNat = k := by omega
      have Hk1 := hid hk1
      clear hk1
      go_wp2
      go_loopw [43, 7] (fun i _ wr => ∃ k : Nat, (k : Int) ≤ c.slots ∧ i = .int .i64 (k : Int) ∧ Hid (Blk wr b 22 (u64s (f2 c k)).toArray) ∧ Hid (Blk wr w.heap.size 26 #[.int .i64 c.nodes, .int .i64 c.slots, .int .i64 c.holders, .int .u32 c.tag]) ∧ Hid (Fr [] w wr ow ow))
        (fun i _ _ => c.slots.toNat - (intOf i).toNat)
      case atStart => exact ⟨0, by omega, by simp, by rw [f2, Hk1.out]; exact Hb, HB, HF⟩
      case round =>
        clear hk hlt Hk1 Hb HB HF bc
        obtain ⟨k, hk, rfl, Hb, HB, HF⟩ := hrel
        have bc := HB.out.cell
        by_cases hlt : (k : Int) < c.slots
        · have hsl : c.slot (k : Int) = ((2 + 2 * c.nodes.toNat + k : Nat) : Int) := by unfold Cfg.slot; rw [if_pos ⟨h, by omega, by omega⟩]; omega
          have hjN : 2 + 2 * c.nodes.toNat + k < N := by have := Hce.out; have := HN.out; omega
          have hjl : 2 + 2 * c.nodes.toNat + k < (f2 c k).length := by rw [f2_len, HN.out]; simpa using hjN
          have hf : (f2 c k).set (2 + 2 * c.nodes.toNat + k) (pword 0 c.tag) = f2 c (k + 1) := by simp only [f2]; rw [hsl]; rfl
          have Hf := hid hf
          have Hsl := hid hsl
          have Hjl := hid hjl
          clear hf hsl hjl
          generalize 2 + 2 * c.nodes.toNat + k = j at *
          have hjN' : (j : Int) < (N : Int) := by omega
          have rj := Hb.out.cell j
          rw [u64s_at _ _ Hjl.out] at rj
          go_wp2
          go_region_with (first
            | (go_at_call 19
               refine (slot_calls c _ _ (by omega) (by omega)).mono ?_
               rintro e w1 ⟨rfl, hb1⟩
               rw [Hsl.out]
               have Z := fresh_w5 Hb.out.drew HB.out.drew HF.out.drew hb1
               have rj1 := Z.1.cell j
               rw [u64s_at _ _ Hjl.out] at rj1
               have rf1 := Z.1.frozen j
               have bc1 := Z.2.1.cell
               have HZ := hid Z
               clear Z hb1)
            | (go_at_call 73
               refine (pWord_calls _ _ _ (by omega) (by omega) (by omega) (by omega)).mono ?_
               rintro e w' ⟨rfl, rfl⟩))
          all_goals
            go_wp2_with fail
            have hset : (u64s (f2 c k)).toArray.setIfInBounds j (.int .u64 (pword 0 c.tag)) = (u64s (f2 c (k + 1))).toArray := by rw [u64s_set, Hf.out]
            go_roundw
            case rel => exact ⟨k + 1, by omega, by go_num, hid (HZ.out.1.set' j _ _ hset), hid (HZ.out.2.1.far Hne.out _), hid (HZ.out.2.2.setNew Hlb.out _)⟩
            case measure => simp [intOf]; omega
        · have hks : c.slots.toNat = k := by omega
          have Hks := hid hks
          clear hks
          go_wp2
          go_ret2
          have hfr : fresh c = f2 c k := by unfold fresh; rw [Hks.out]
          rw [hfr]
          refine ⟨_, Post.mk rfl (extAll ow w.heap.size g) (fr_reown HF.out g) ⟨_, _, _, rfl, ?_, .inr ⟨b, _, rfl, extAll_new _ Hlb.out, Hb.out, Nat.le_refl _, ?_, ?_, ?_⟩⟩⟩
          · rw [length_u64s, f2_len, HN.out]; simp
          · unfold maxLen; omega
          · simp [length_u64s, f2_len, HN.out]
          · rw [List.take_of_length_le]
            rw [show (u64s (f2 c k)).toArray.toList.length = (u64s (f2 c k)).length by simp, length_u64s, f2_len, HN.out]
            simp
end Go.Proofs.Ytkilpnfgpepfmaa
