/- wmem: Load, Store, Swap. -/
import Derived.Test.YtkilpnfgpepfmaaAccLoad
import Derived.Test.YtkilpnfgpepfmaaAccStore
import Derived.Test.YtkilpnfgpepfmaaAccHit
import Derived.Test.YtkilpnfgpepfmaaAccMiss
set_option linter.unusedSimpArgs false
set_option linter.unusedVariables false
set_option linter.unusedSectionVars false
open Go Go.RowKit Hat
namespace Go.Proofs.Ytkilpnfgpepfmaa
set_option maxHeartbeats 1000000
set_option maxRecDepth 100000

theorem IsMem.open0 {t p : Nat} {m : Mem} {w : World} {ow : Nat → Nat} (h : IsMem t p m w ow) :
    ∃ a c vn, Blk w p 126 #[.slice a m.ws.length c, vn] := by
  obtain ⟨ho, hw, hl, vw, vn, hb, h1, h2⟩ := h
  obtain ⟨a, n, c, rfl, hlx⟩ := h1.form
  have hn : n = m.ws.length := by simpa [length_u64s] using hlx.symm
  subst hn
  exact ⟨a, c, vn, hb⟩

theorem access_out (t p : Nat) (m : Mem) (a : Int) (T : TypeId) (x : Value) (w : World) (ow : Nat → Nat) (h : IsMem t p m w ow) (ha : a < 0 ∨ m.ws.length ≤ a) :
    Calls Try.prog 105 #[.pointer (some ⟨p, 0, none⟩), .int .i64 a, .iface T x] w
      fun e w' => e = .returned (.tuple #[noteV ⟨0, 0, 0, 0, false⟩, .int .i64 2]) ∧ Below w.heap.size w w' := by
  obtain ⟨wa, c, vn, hb⟩ := h.open0
  obtain ⟨hcp, hfp, hpl⟩ := hb.all
  obtain ⟨p1, p2, p3, p4, p5⟩ := lts hpl
  have hl := h.2.2.1
  clear h
  by_cases h0 : a < 0
  · have d0 : decide (a < 0) = true := by simp [h0]
    go_enter Try.func105, Try.ntmps105
    go_wp2
    refine bodyPost_ret (v := .tuple #[noteV ⟨0, 0, 0, 0, false⟩, .int .i64 2]) (by simp [results, Try.results105, go_sem, noteV]) rfl ⟨rfl, ?_⟩
    go_grown
  · have d0 : decide (a < 0) = false := by simp [h0]
    have d1 : decide ((m.ws.length : Int) ≤ a) = true := by simp; omega
    go_enter Try.func105, Try.ntmps105
    go_wp2
    refine bodyPost_ret (v := .tuple #[noteV ⟨0, 0, 0, 0, false⟩, .int .i64 2]) (by simp [results, Try.results105, go_sem, noteV]) rfl ⟨rfl, ?_⟩
    go_grown

theorem set_getD (l : List Int) (k : Nat) (x : Int) (hk : k < l.length) (hx : l.getD k 0 = x) : l.set k x = l := by
  subst hx
  apply List.ext_getElem?
  intro j
  rw [List.getElem?_set]
  by_cases e : k = j
  · subst e; simp [hk]
  · simp [e]

theorem Mem.has_iff (m : Mem) (a : Int) : m.has a = true ↔ 0 ≤ a ∧ a < m.ws.length := by simp [Mem.has]

theorem load_calls (t p : Nat) (m : Mem) (a : Int) (w : World) (ow : Nat → Nat) (h : IsMem t p m w ow) (hn : m.ns.length < 1000000000) :
    Calls Try.prog 98 #[.pointer (some ⟨p, 0, none⟩), .int .i64 a] w
      (Post [t, t + 1, t + 2] w ow (.tuple #[.int .u64 (m.load a).1.1, .int .i64 (m.load a).1.2]) (IsMem t p (m.load a).2)) := by
  by_cases ha : 0 ≤ a ∧ a < m.ws.length
  · obtain ⟨k, rfl⟩ := Int.eq_ofNat_of_zero_le ha.1
    have hk : k < m.ws.length := by omega
    have hval : m.load (k : Int) = ((m.ws.getD k 0, 0), { ws := m.ws.set k (m.ws.getD k 0), ns := m.ns ++ [⟨108, (k : Int), m.ws.getD k 0, m.ws.getD k 0, true⟩] }) := by
      rw [set_getD _ _ _ hk rfl]
      simp [Mem.load, Mem.has, Mem.get, hk]
    rw [hval]
    have Ha := access_load t p m k w ow h hk hn _ rfl
    generalize m.ws.getD k 0 = x at *
    clear hval ha
    have HA := hid Ha
    clear Ha
    go_enter Try.func98, Try.ntmps98
    go_wp2_with (go_at_call 105; refine HA.out.mono ?_; rintro e w1 ⟨rfl, ow1, hf1, hm1⟩; unfold noteV)
    go_ret2
    exact Post.mk rfl ow1 (by repeat' (first | (with_reducible exact hf1) | (with_reducible refine Fr.alloc0 ?_ _))) (Locl.keep IsMem.loc hm1 (us := []) (by repeat' (first | (with_reducible exact Fr.refl _ _ _) | (with_reducible refine Fr.alloc0 ?_ _))) (by simp))
  · have hval : m.load a = ((0, 2), m) := by
      have : m.has a = false := by cases hh : m.has a with
        | false => rfl
        | true => exact absurd ((Mem.has_iff m a).1 hh) ha
      simp [Mem.load, this]
    rw [hval]
    have HA := hid (access_out t p m a 173 (.agg #[]) w ow h (by omega))
    clear hval ha
    go_enter Try.func98, Try.ntmps98
    go_wp2_with (go_at_call 105; refine HA.out.mono ?_; rintro e w1 ⟨rfl, hb1⟩; unfold noteV)
    go_ret2
    have hfr := Fr.of_below hb1 [] ow
    exact Post.mk rfl ow (by repeat' (first | (with_reducible exact hfr.mono (by simp)) | (with_reducible refine Fr.alloc0 ?_ _))) (Locl.keep IsMem.loc h (us := []) (by repeat' (first | (with_reducible exact hfr) | (with_reducible refine Fr.alloc0 ?_ _))) (by simp))

theorem store_calls (t p : Nat) (m : Mem) (a v : Int) (w : World) (ow : Nat → Nat) (h : IsMem t p m w ow) (hn : m.ns.length < 1000000000) (hv0 : 0 ≤ v) (hv1 : v < 18446744073709551616) :
    Calls Try.prog 112 #[.pointer (some ⟨p, 0, none⟩), .int .i64 a, .int .u64 v] w
      (Post [t, t + 1, t + 2] w ow (.int .i64 (m.store a v).1) (IsMem t p (m.store a v).2)) := by
  by_cases ha : 0 ≤ a ∧ a < m.ws.length
  · obtain ⟨k, rfl⟩ := Int.eq_ofNat_of_zero_le ha.1
    have hk : k < m.ws.length := by omega
    have hval : m.store (k : Int) v = (0, { ws := m.ws.set k v, ns := m.ns ++ [⟨115, (k : Int), m.ws.getD k 0, v, true⟩] }) := by
      simp [Mem.store, Mem.has, Mem.get, hk]
    rw [hval]
    have Ha := access_store t p m k v w ow h hk hn _ rfl hv0 hv1
    generalize m.ws.getD k 0 = x at *
    clear hval ha
    have HA := hid Ha
    clear Ha
    go_enter Try.func112, Try.ntmps112
    go_wp2_with (go_at_call 105; refine HA.out.mono ?_; rintro e w1 ⟨rfl, ow1, hf1, hm1⟩; unfold noteV)
    go_ret
    exact Post.mk rfl ow1 (by repeat' (first | (with_reducible exact hf1) | (with_reducible refine Fr.alloc0 ?_ _))) (Locl.keep IsMem.loc hm1 (us := []) (by repeat' (first | (with_reducible exact Fr.refl _ _ _) | (with_reducible refine Fr.alloc0 ?_ _))) (by simp))
  · have hval : m.store a v = (2, m) := by
      have : m.has a = false := by cases hh : m.has a with
        | false => rfl
        | true => exact absurd ((Mem.has_iff m a).1 hh) ha
      simp [Mem.store, this]
    rw [hval]
    have HA := hid (access_out t p m a 175 (.agg #[.int .u64 v]) w ow h (by omega))
    clear hval ha
    go_enter Try.func112, Try.ntmps112
    go_wp2_with (go_at_call 105; refine HA.out.mono ?_; rintro e w1 ⟨rfl, hb1⟩; unfold noteV)
    go_ret
    have hfr := Fr.of_below hb1 [] ow
    exact Post.mk rfl ow (by repeat' (first | (with_reducible exact hfr.mono (by simp)) | (with_reducible refine Fr.alloc0 ?_ _))) (Locl.keep IsMem.loc h (us := []) (by repeat' (first | (with_reducible exact hfr) | (with_reducible refine Fr.alloc0 ?_ _))) (by simp))

theorem swap_calls (t p : Nat) (m : Mem) (a o v : Int) (w : World) (ow : Nat → Nat) (h : IsMem t p m w ow) (hn : m.ns.length < 1000000000) (hv0 : 0 ≤ v) (hv1 : v < 18446744073709551616) :
    Calls Try.prog 107 #[.pointer (some ⟨p, 0, none⟩), .int .i64 a, .int .u64 o, .int .u64 v] w
      (Post [t, t + 1, t + 2] w ow (.tuple #[.bool (m.swap a o v).1.1, .int .i64 (m.swap a o v).1.2]) (IsMem t p (m.swap a o v).2)) := by
  by_cases ha : 0 ≤ a ∧ a < m.ws.length
  · obtain ⟨k, rfl⟩ := Int.eq_ofNat_of_zero_le ha.1
    have hk : k < m.ws.length := by omega
    by_cases hxo : m.ws.getD k 0 = o
    · have hval : m.swap (k : Int) o v = ((true, 0), { ws := m.ws.set k v, ns := m.ns ++ [⟨99, (k : Int), o, v, true⟩] }) := by
        subst hxo
        simp [Mem.swap, Mem.has, Mem.get, hk]
      rw [hval]
      have Ha := access_hit t p m k v w ow h hk hn _ hxo hv0 hv1
      clear hval ha hxo
      have HA := hid Ha
      clear Ha
      go_enter Try.func107, Try.ntmps107
      go_wp2_with (go_at_call 105; refine HA.out.mono ?_; rintro e w1 ⟨rfl, ow1, hf1, hm1⟩; unfold noteV)
      go_ret2
      exact Post.mk rfl ow1 (by repeat' (first | (with_reducible exact hf1) | (with_reducible refine Fr.alloc0 ?_ _))) (Locl.keep IsMem.loc hm1 (us := []) (by repeat' (first | (with_reducible exact Fr.refl _ _ _) | (with_reducible refine Fr.alloc0 ?_ _))) (by simp))
    · have hval : m.swap (k : Int) o v = ((false, 0), { ws := m.ws.set k (m.ws.getD k 0), ns := m.ns ++ [⟨99, (k : Int), m.ws.getD k 0, m.ws.getD k 0, false⟩] }) := by
        rw [set_getD _ _ _ hk rfl]
        have hxo' : ¬ m.get (k : Int) = o := hxo
        simp only [Mem.swap, Mem.has_iff]
        rw [if_pos (by simp; exact hk), if_neg hxo']
        simp [Mem.get]
      rw [hval]
      have Ha := access_miss t p m k o v w ow h hk hn _ rfl (by simp only [beq_eq_false_iff_ne, ne_eq]; exact hxo)
      generalize m.ws.getD k 0 = x at *
      clear hval ha hxo
      have HA := hid Ha
      clear Ha
      go_enter Try.func107, Try.ntmps107
      go_wp2_with (go_at_call 105; refine HA.out.mono ?_; rintro e w1 ⟨rfl, ow1, hf1, hm1⟩; unfold noteV)
      go_ret2
      exact Post.mk rfl ow1 (by repeat' (first | (with_reducible exact hf1) | (with_reducible refine Fr.alloc0 ?_ _))) (Locl.keep IsMem.loc hm1 (us := []) (by repeat' (first | (with_reducible exact Fr.refl _ _ _) | (with_reducible refine Fr.alloc0 ?_ _))) (by simp))
  · have hval : m.swap a o v = ((false, 2), m) := by
      have : m.has a = false := by cases hh : m.has a with
        | false => rfl
        | true => exact absurd ((Mem.has_iff m a).1 hh) ha
      simp [Mem.swap, this]
    rw [hval]
    have HA := hid (access_out t p m a 177 (.agg #[.int .u64 o, .int .u64 v]) w ow h (by omega))
    clear hval ha
    go_enter Try.func107, Try.ntmps107
    go_wp2_with (go_at_call 105; refine HA.out.mono ?_; rintro e w1 ⟨rfl, hb1⟩; unfold noteV)
    go_ret2
    have hfr := Fr.of_below hb1 [] ow
    exact Post.mk rfl ow (by repeat' (first | (with_reducible exact hfr.mono (by simp)) | (with_reducible refine Fr.alloc0 ?_ _))) (Locl.keep IsMem.loc h (us := []) (by repeat' (first | (with_reducible exact hfr) | (with_reducible refine Fr.alloc0 ?_ _))) (by simp))
end Go.Proofs.Ytkilpnfgpepfmaa
