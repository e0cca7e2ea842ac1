/- package exchange: what a visit is in the heap. -/
import Derived.Test.YtkilpnfgpepfmaaDraw
set_option linter.unusedSimpArgs false
set_option linter.unusedVariables false
set_option linter.unusedSectionVars false
open Go Go.RowKit Hat
namespace Go.Proofs.Ytkilpnfgpepfmaa
set_option maxHeartbeats 1000000
set_option maxRecDepth 100000

theorem Blk.eq {w : World} {g : Nat} {t : TypeId} {cs cs' : Array Value} (h : Blk w g t cs) (e : cs = cs') : Blk w g t cs' := e ▸ h

theorem Ex.go_0 (v : Ex) (m : Mem) (now : Int) (h : v.pc = 0) : v.go m now = (
    let r := m.load v.at_
    if r.1.2 ≠ 0 then ({ v with st := 5 }, r.2) else
    if meets r.1.1 v.push then ({ v with w := r.1.1, pc := 1 }, r.2)
    else if sstate r.1.1 = 0 then ({ v with w := r.1.1, pc := 2 }, r.2)
    else ({ v with w := r.1.1, st := 3 }, r.2)) := by
  cases v; dsimp only at h; subst h; rfl
theorem Ex.go_1 (v : Ex) (m : Mem) (now : Int) (h : v.pc = 1) : v.go m now = (
    let w := (claim v.w v.push v.i).1
    let r := m.swap v.at_ v.w w
    if r.1.2 ≠ 0 then ({ v with st := 5 }, r.2)
    else if r.1.1 then ({ v with st := 1, i := sindex w }, r.2) else ({ v with st := 3 }, r.2)) := by
  cases v; dsimp only at h; subst h; rfl
theorem Ex.go_2 (v : Ex) (m : Mem) (now : Int) (h : v.pc = 2) : v.go m now = (
    let w := (offer v.w v.push v.i).1
    let r := m.swap v.at_ v.w w
    if r.1.2 ≠ 0 then ({ v with st := 5 }, r.2)
    else if r.1.1 then ({ v with w := w, offered := true, pc := 3 }, r.2) else ({ v with st := 3 }, r.2)) := by
  cases v; dsimp only at h; subst h; rfl
theorem Ex.go_3 (v : Ex) (m : Mem) (now : Int) (h : v.pc = 3) : v.go m now = (
    let r := m.load v.at_
    if r.1.2 ≠ 0 then ({ v with st := 5 }, r.2) else
    if r.1.1 = v.w then
      ({ v with looks := v.looks - 1, pc := (if v.looks - 1 ≤ 0 ∨ now ≥ v.deadline then 4 else 3) }, r.2)
    else if sstate r.1.1 ≠ 3 ∨ sstamp r.1.1 ≠ sstamp v.w then ({ v with st := 5 }, r.2)
    else ({ v with i := sindex r.1.1, found := r.1.1, pc := 5 }, r.2)) := by
  cases v; dsimp only at h; subst h; rfl
theorem Ex.go_4 (v : Ex) (m : Mem) (now : Int) (h : v.pc = 4) : v.go m now = (
    let r := m.swap v.at_ v.w (sclear v.w)
    if r.1.2 ≠ 0 then ({ v with st := 5, pc := 3 }, r.2)
    else if r.1.1 then ({ v with st := 4, pc := 3 }, r.2) else ({ v with pc := 3 }, r.2)) := by
  cases v; dsimp only at h; subst h; rfl
theorem Ex.go_5 (v : Ex) (m : Mem) (now : Int) (h : v.pc = 5) : v.go m now = (
    let r := m.store v.at_ (sclear v.found)
    if r.1 ≠ 0 then ({ v with st := 5 }, r.2) else ({ v with st := 1 }, r.2)) := by
  cases v; dsimp only at h; subst h; rfl

structure ExWf (x : Ex) : Prop where
  i0 : 0 ≤ x.i
  i1 : x.i < 4294967296
  d0 : 0 ≤ x.deadline
  d1 : x.deadline < 18446744073709551616
  l0 : -9000000000000000000 ≤ x.looks
  l1 : x.looks < 9223372036854775808
  w0 : 0 ≤ x.w
  w1 : x.w < 18446744073709551616
  f0 : 0 ≤ x.found
  f1 : x.found < 18446744073709551616

/-- What comes next, as the visit's field holds it (whatever it is, when the visit ended). -/
def exNext (t p : Nat) (x : Ex) (nv : Value) (w : World) (ow : Nat → Nat) : Prop :=
  x.st ≠ 0 ∨ (x.pc = 0 ∧ nv = .func (.func 75) #[.pointer (some ⟨p, 0, none⟩)] #[]) ∨
  (x.pc = 1 ∧ nv = .func (.func 92) #[.pointer (some ⟨p, 0, none⟩)] #[]) ∨
  (x.pc = 2 ∧ nv = .func (.func 94) #[.pointer (some ⟨p, 0, none⟩)] #[]) ∨
  (x.pc = 3 ∧ nv = .func (.func 104) #[.pointer (some ⟨p, 0, none⟩)] #[]) ∨
  (x.pc = 4 ∧ nv = .func (.func 110) #[.pointer (some ⟨p, 0, none⟩)] #[]) ∨
  (x.pc = 5 ∧ ∃ b1 b2, nv = .func (.func 111) #[] #[.pointer (some ⟨b1, 0, none⟩), .pointer (some ⟨b2, 0, none⟩)] ∧
    Blk w b1 110 #[.pointer (some ⟨p, 0, none⟩)] ∧ Blk w b2 22 #[.int .u64 x.found] ∧ ow b1 = t ∧ ow b2 = t)

/-- A visit x in block p, its status field s. -/
def IsExS (t p : Nat) (x : Ex) (s : Int) (w : World) (ow : Nat → Nat) : Prop :=
  ow p = t ∧ ExWf x ∧ ∃ nv, Blk w p 146 #[.int .i64 x.at_, .bool x.push, .int .u32 x.i, .int .u64 x.deadline, .int .i64 x.looks, .int .u64 x.w, nv, .int .i64 s, .bool x.offered] ∧ exNext t p x nv w ow
def IsEx (t p : Nat) (x : Ex) (w : World) (ow : Nat → Nat) : Prop := IsExS t p x x.st w ow

theorem exNext.loc {t p : Nat} {x : Ex} {nv : Value} : Locl [t] (exNext t p x nv) := by
  intro w w' ow ow' h hr
  rcases hr with hr | hr | hr | hr | hr | hr | ⟨hp, b1, b2, hv, h1, h2, o1, o2⟩
  · exact .inl hr
  · exact .inr (.inl hr)
  · exact .inr (.inr (.inl hr))
  · exact .inr (.inr (.inr (.inl hr)))
  · exact .inr (.inr (.inr (.inr (.inl hr))))
  · exact .inr (.inr (.inr (.inr (.inr (.inl hr)))))
  · obtain ⟨h1', o1'⟩ := Locl.of_blk h h1 (by simp [o1])
    obtain ⟨h2', o2'⟩ := Locl.of_blk h h2 (by simp [o2])
    exact .inr (.inr (.inr (.inr (.inr (.inr ⟨hp, b1, b2, hv, h1', h2', o1'.trans o1, o2'.trans o2⟩)))))
theorem IsExS.loc {t p : Nat} {x : Ex} {s : Int} : Locl [t] (IsExS t p x s) := by
  intro w w' ow ow' h hr
  obtain ⟨ho, hw, nv, hb, hn⟩ := hr
  obtain ⟨hb', ho'⟩ := Locl.of_blk h hb (by simp [ho])
  exact ⟨ho'.trans ho, hw, nv, hb', exNext.loc w w' ow ow' h hn⟩

theorem exnew_calls (t : Nat) (a : Int) (push : Bool) (i d n : Int) (w : World) (ow : Nat → Nat) (hi0 : 0 ≤ i) (hi1 : i < 4294967296) (hd0 : 0 ≤ d) (hd1 : d < 18446744073709551616) (hn : n < 9223372036854775808) :
    Calls Try.prog 49 #[.int .i64 a, .bool push, .int .u32 i, .int .u64 d, .int .i64 n] w
      fun e w' => ∃ p, Post [] w ow (.pointer (some ⟨p, 0, none⟩)) (IsEx t p (Ex.new a push i d n)) e w' := by
  have hwf : Hid (ExWf (Ex.new a push i d n)) := hid ⟨hi0, hi1, hd0, hd1, by simp only [Ex.new]; omega, by simp only [Ex.new]; omega, Int.le_refl 0, (by decide : (0 : Int) < 18446744073709551616), Int.le_refl 0, (by decide : (0 : Int) < 18446744073709551616)⟩
  go_enter Try.func49, Try.ntmps49
  go_wp2
  all_goals
    go_ret
    refine ⟨_, Post.mk rfl (ext ow w.heap.size t) ((Fr.refl _ _ _).alloc _ t) ⟨ext_new _ _ _, hwf.out, _, Blk.eq (Blk.new _ _ _) ?_, .inr (.inl ⟨rfl, rfl⟩)⟩⟩
    have e : (Ex.new a push i d n).looks = max n 1 := rfl
    simp [Ex.new]
    omega
end Go.Proofs.Ytkilpnfgpepfmaa
