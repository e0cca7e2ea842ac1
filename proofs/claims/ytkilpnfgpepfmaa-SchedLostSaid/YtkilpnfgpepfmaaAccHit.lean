/- wmem's access: Hit. -/
import Derived.Test.YtkilpnfgpepfmaaMem
set_option linter.unusedSimpArgs false
set_option linter.unusedVariables false
set_option linter.unusedSectionVars false
open Go Go.RowKit Hat
namespace Go.Proofs.Ytkilpnfgpepfmaa
set_option maxHeartbeats 2000000
set_option maxRecDepth 100000

theorem access_hit (t p : Nat) (m : Mem) (k : Nat) (v : Int) (w : World) (ow : Nat → Nat) (h : IsMem t p m w ow) (hk : k < m.ws.length) (hn : m.ns.length < 1000000000) (x : Int) (hx : m.ws.getD k 0 = x) (hv0 : 0 ≤ v) (hv1 : v < 18446744073709551616) :
    Calls Try.prog 105 #[.pointer (some ⟨p, 0, none⟩), .int .i64 (k : Int), .iface 177 (.agg #[.int .u64 x, .int .u64 v])] w
      (Post [t, t + 1, t + 2] w ow (.tuple #[noteV ⟨99, (k : Int), x, v, true⟩, .int .i64 0]) (IsMem t p { ws := m.ws.set k v, ns := m.ns ++ [⟨99, (k : Int), x, v, true⟩] })) := by
  obtain ⟨b, c, vn, hb, hop, hob, hpb, hbl, hcb, hfb, hsw, hsn⟩ := h.open_ (by intro e; rw [e] at hk; simp at hk)
  obtain ⟨hcp, hfp, hpl⟩ := hb.all
  have hck := hcb k hk
  have hfk := hfb k
  have hl := h.2.2.1
  have hrange := h.2.1 (m.ws.getD k 0) (by simp [hk])
  rw [hx] at hrange hck
  have hbp := hpb.symm
  have Hm := hid h
  have Hx := hid hx
  have Hb := hid hb
  have Hsw := hid hsw
  have Hk := hid hk
  clear h hx hcb hfb hb hsw
  obtain ⟨hx0, hx1⟩ := hrange
  have d0 : decide ((k : Int) < 0) = false := by simp
  have d1 : decide ((m.ws.length : Int) ≤ k) = false := by simp; omega
  obtain ⟨p1, p2, p3, p4, p5⟩ := lts hpl
  obtain ⟨b1, b2, b3, b4, b5⟩ := lts hbl
  obtain ⟨n1, n2, n3, n4, n5, n6, n7, n8, n9⟩ := nts w.heap.size
  have t1 := ta_cl
  have t2 := ta_cs
  have t3 := ta_cc
  go_enter Try.func105, Try.ntmps105
  go_wp2
  go_region
  go_wp2
  go_region
  go_wp2
  go_region
  go_wp2
  go_region_law (
    (refine step_append_sl slT_acc rfl (.tmp 79) (.tmp 81) rfl (t := t + 2) (v := vn) (xs := notesV m.ns) (ow := extAll ow w.heap.size t) rfl ?_ ⟨w.heap.size + 1 + 1 + 1, 0, none⟩ 1 1 rfl (noteCells ⟨99, (k : Int), x, v, true⟩) rfl ?_ ?_ (by decide) ?_ (by decide) ?_
     · refine Locl.keep Sl.loc hsn (ts := [t + 2]) (us := [t, t + 1]) ?_ ?_
       · repeat' (first | exact Fr.start _ _ _ _ | (with_reducible refine Fr.drew ?_) | (with_reducible refine Fr.alloc0 ?_ _) | (with_reducible refine Fr.setCell ?_ ?_ _) | (simp [extAll_old ow hbl, hob]; done))
       · simp
     · intro j u hu
       simp only [addr_add0, World.cell?_drew]
       rw [World.cell?_alloc_at]
       · simpa [noteCells] using hu
       · simp
     · simp [noteCells, Value.oneCell']
     · rw [length_notesV]; simp only [noteCells, List.length_cons, List.length_nil]; omega
     intro a' n' c' w' ow' hs' hfr'
     have hF : Fr [t, t + 1, t + 2] w w' ow ow' := by
       refine Fr.trans ?_ hfr' ?_
       · repeat' (first | exact Fr.start _ _ _ _ | (with_reducible refine Fr.drew ?_) | (with_reducible refine Fr.alloc0 ?_ _) | (with_reducible refine Fr.setCell ?_ ?_ _) | (simp [extAll_old ow hbl, hob]; done))
       · simp
     have hwd : Sl (t + 1) 22 1 (.slice (some ⟨b, 0, none⟩) m.ws.length c) ((u64s m.ws).set k (.int .u64 v)) w' ow' := by
       refine Locl.keep Sl.loc (Sl.set1 _ Hsw.out Hk.out) (ts := [t + 1]) (us := [t, t + 2]) ?_ ?_
       · refine Fr.trans ?_ hfr' ?_
         · repeat' (first | exact Fr.start' _ _ _ _ _ rfl | (with_reducible refine Fr.drew ?_) | (with_reducible refine Fr.alloc0 ?_ _))
         · simp
       · simp
     have hbp' : Blk w' p 126 #[.slice (some ⟨b, 0, none⟩) m.ws.length c, vn] := by
       refine hfr'.blk ?_ ?_
       · repeat' (first | exact Hb.out | exact hpb | (with_reducible refine Blk.drew ?_) | (with_reducible refine Blk.alloc ?_ _) | (with_reducible refine Blk.far ?_ ?_ _))
       · simp [extAll_old ow hpl, hop]
     have hop' : ow' p = t := by
       rw [hfr'.old p (by simp only [World.size_alloc, World.size_setCell, World.size_drew]; omega)]; simp [extAll_old ow hpl, hop]
     have hor' : ow' w.heap.size = t := by
       rw [hfr'.old w.heap.size (by simp only [World.size_alloc, World.size_setCell, World.size_drew]; omega)]; exact extAll_new ow (Nat.le_refl _)
     have hba' : Blk w' (w.heap.size + 1) 51 #[.int .u8 99, .int .i64 k, .int .u64 x, .int .u64 v, .bool true] := by
       refine hfr'.blk ?_ ?_
       · repeat' (first | ((with_reducible refine Blk.new' _ _ _ _ ?_); simp only [World.size_alloc, World.size_setCell, World.size_drew]; done) | (with_reducible refine Blk.drew ?_) | (with_reducible refine Blk.alloc ?_ _))
       · rw [extAll_new ow (by omega)]; simp
     have hbr' : Blk w' w.heap.size 51 #[.int .u8 0, .int .i64 0, .int .u64 0, .int .u64 0, .bool false] := by
       refine hfr'.blk ?_ ?_
       · repeat' (first | ((with_reducible refine Blk.new' _ _ _ _ ?_); simp only [World.size_alloc, World.size_setCell, World.size_drew]; done) | (with_reducible refine Blk.drew ?_) | (with_reducible refine Blk.alloc ?_ _))
       · rw [extAll_new ow (by omega)]; simp
     have hrp : p ≠ w.heap.size := Nat.ne_of_lt hpl
     have hrp' : w.heap.size ≠ p := fun e => hrp e.symm
     have Hbp' := hid hbp'
     obtain ⟨hcp', hfp', hpl'⟩ := hbp'.all
     obtain ⟨hca', hfa', hal'⟩ := hba'.all
     obtain ⟨hcr', hfr1', hrl'⟩ := hbr'.all
     clear hbp' hba' hbr'))
  all_goals
    go_wp2
    refine bodyPost_ret (v := .tuple #[noteV ⟨99, (k : Int), x, v, true⟩, .int .i64 0]) (by simp [results, Try.results105, go_sem, hcr', hrp, hrp', noteV]) rfl ?_
    refine Post.mk rfl ow' ?_ ?_
    · repeat' (first | (with_reducible exact hF) | (with_reducible refine Fr.setCell ?_ ?_ _) | (simp [hop', hor']; done))
    · refine ⟨hop', ?_, ?_, .slice (some ⟨b, 0, none⟩) m.ws.length c, .slice a' n' c', ?_, ?_, ?_⟩
      · intro y hy
        rcases List.mem_or_eq_of_mem_set hy with hy | rfl
        · exact Hm.out.2.1 y hy
        · omega
      · simpa using hl
      · repeat' (first | (with_reducible exact hrp) | ((with_reducible refine Hbp'.out.set' 1 _ _ ?_); rfl) | (with_reducible refine Blk.far ?_ ?_ _))
      · rw [show u64s (m.ws.set k v) = (u64s m.ws).set k (.int .u64 v) from by simp [u64s]]
        refine Locl.keep Sl.loc hwd (ts := [t + 1]) (us := [t]) ?_ ?_
        · repeat' (first | (with_reducible exact Fr.refl _ _ _) | (with_reducible refine Fr.setCell ?_ ?_ _) | (simp [hop', hor']; done))
        · simp
      · rw [show notesV (m.ns ++ [⟨99, (k : Int), x, v, true⟩]) = notesV m.ns ++ noteCells ⟨99, (k : Int), x, v, true⟩ from by simp [notesV]]
        refine Locl.keep Sl.loc hs' (ts := [t + 2]) (us := [t]) ?_ ?_
        · repeat' (first | (with_reducible exact Fr.refl _ _ _) | (with_reducible refine Fr.setCell ?_ ?_ _) | (simp [hop', hor']; done))
        · simp
end Go.Proofs.Ytkilpnfgpepfmaa
