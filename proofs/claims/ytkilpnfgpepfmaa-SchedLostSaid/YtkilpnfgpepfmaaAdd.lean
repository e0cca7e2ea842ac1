/- hatstandlaw16: several adders at one sched. -/
import Derived.Test.YtkilpnfgpepfmaaSchErrs
set_option linter.unusedSimpArgs false
set_option linter.unusedVariables false
set_option linter.unusedSectionVars false
open Go Go.RowKit Hat
namespace Go.Proofs.Ytkilpnfgpepfmaa
set_option maxHeartbeats 4000000
set_option maxRecDepth 100000

structure Ad where
  q : Nat
  at_ : Int
  most : Int
  by_ : Int
  read : Bool
  x : Int
  did : Int
  live : Bool
def Ad.Ok (A : Ad) : Prop := (0 ≤ A.x ∧ A.x < 18446744073709551616) ∧ (0 ≤ A.by_ ∧ A.by_ < 18446744073709551616) ∧ 0 ≤ A.did ∧ A.did < 1000000
def Ad.sum (A : Ad) : Int := (A.x + A.by_) % 18446744073709551616
/-- What a step tells, the machine and the memory behind it. -/
def Ad.go (A : Ad) (m : Mem) : (Int × Int) × Ad × Mem :=
  if A.read = false then ((0, 0), { A with read := true, x := (m.load A.at_).1.1 }, (m.load A.at_).2)
  else if A.did + 1 < A.most then ((0, 0), { A with read := false, did := A.did + 1 }, (m.store A.at_ A.sum).2)
  else ((1, A.sum), { A with read := false, did := A.did + 1, live := false }, (m.store A.at_ A.sum).2)
def Ad.val (A : Ad) : Value := if A.live = true then .iface 90 (.pointer (some ⟨A.q, 0, none⟩)) else .nilIface
def thA (n : Nat) (L : List Ad) : List Value := L.map Ad.val ++ nils (n - L.length)
def TS4 : List Nat := [1, 2, 10, 11, 12, 13, 14, 15, 16, 17, 50, 51, 52, 60, 61]

theorem thA_len {n : Nat} {L : List Ad} (h : L.length ≤ n) : (thA n L).length = n := by simp [thA, nils]; omega
theorem thA_mach (n : Nat) (L : List Ad) : ∀ x ∈ thA n L, x = .nilIface ∨ ∃ T v, x = .iface T v := by
  intro x hx
  simp only [thA, List.mem_append, List.mem_map] at hx
  rcases hx with ⟨A, _, rfl⟩ | hx
  · unfold Ad.val
    by_cases h : A.live = true
    · rw [if_pos h]; exact .inr ⟨_, _, rfl⟩
    · rw [if_neg h]; exact .inl rfl
  · exact nils_mach _ x hx
theorem thA_get {n : Nat} {L : List Ad} {j : Nat} {A : Ad} (h : L[j]? = some A) : (thA n L)[j]? = some A.val := by
  have hj : j < L.length := by
    rcases Nat.lt_or_ge j L.length with h1 | h1
    · exact h1
    · rw [List.getElem?_eq_none h1] at h; cases h
  unfold thA
  rw [List.getElem?_append_left (by simpa using hj), List.getElem?_map, h]
  rfl
theorem thA_set {n : Nat} {L : List Ad} {j : Nat} {A : Ad} (hj : j < L.length) : (thA n L).set j A.val = thA n (L.set j A) := by
  unfold thA
  rw [List.set_append_left _ _ (by simpa using hj), List.map_set, List.length_set]
theorem thA_same {n : Nat} {L : List Ad} {j : Nat} {A B : Ad} (h : L[j]? = some A) (he : B.val = A.val) : thA n (L.set j B) = thA n L := by
  have hj : j < L.length := by
    rcases Nat.lt_or_ge j L.length with h1 | h1
    · exact h1
    · rw [List.getElem?_eq_none h1] at h; cases h
  rw [← thA_set hj, he]
  refine List.ext_getElem? fun i => ?_
  rw [List.getElem?_set]
  by_cases hij : j = i
  · subst hij
    rw [if_pos rfl, if_pos (by rw [thA, List.length_append, List.length_map]; omega), thA_get h]
  · rw [if_neg hij]
theorem thA_push {n : Nat} {L : List Ad} (h : L.length < n) (A : Ad) : (thA n L).set L.length A.val = thA n (L ++ [A]) := by
  unfold thA
  obtain ⟨r, hr⟩ : ∃ r, n - L.length = r + 1 := ⟨n - L.length - 1, by omega⟩
  have h2 : n - (L ++ [A]).length = r := by simp; omega
  rw [hr, h2, List.set_append_right _ _ (by simp)]
  simp [nils, List.replicate_succ]
theorem thA_next {n : Nat} {L : List Ad} (h : L.length < n) : (thA n L)[L.length]? = some .nilIface := by
  unfold thA
  rw [List.getElem?_append_right (by simp), nils, List.getElem?_replicate, if_pos (by simp; omega)]

structure GoT (w : World) (z : Nat → Nat) (n p pm pr : Nat) (L : List Ad) (m : Mem) (k : Int) (W : World) (o : Nat → Nat) : Prop where
  fr : Fr TS4 w W z o
  sched : IsSched 1 p pm pr (thA n L) k W o
  mem : IsMem 50 pm m W o
  src : IsSrc 60 pr ⟨0, []⟩ W o
  ads : ∀ j A, L[j]? = some A → IsAdder (10 + j) A.q A.at_ A.most A.by_ A.read A.x A.did W o
  ok : ∀ A ∈ L, A.Ok
  len : L.length ≤ n
  n8 : n ≤ 8
  n1 : 1 ≤ n
theorem GoT.next {w W W' : World} {z o o' : Nat → Nat} {n p pm pr : Nat} {L : List Ad} {m : Mem} {k : Int} (h : GoT w z n p pm pr L m k W o) (hf : Fr [] W W' o o') : GoT w z n p pm pr L m k W' o' :=
  ⟨h.fr.trans hf (by simp), Locl.keep IsSched.loc h.sched hf (by simp), Locl.keep IsMem.loc h.mem hf (by simp), Locl.keep IsSrc.loc h.src hf (by simp), fun j A hA => Locl.keep IsAdder.loc (h.ads j A hA) hf (by simp), h.ok, h.len, h.n8, h.n1⟩

theorem mem_10 {j : Nat} (hj : j < 8) : 10 + j ∈ TS4 := by
  have : j = 0 ∨ j = 1 ∨ j = 2 ∨ j = 3 ∨ j = 4 ∨ j = 5 ∨ j = 6 ∨ j = 7 := by omega
  rcases this with rfl | rfl | rfl | rfl | rfl | rfl | rfl | rfl <;> simp [TS4]
theorem load_rng {t p : Nat} {m : Mem} {W : World} {o : Nat → Nat} (h : IsMem t p m W o) (a : Int) : 0 ≤ (m.load a).1.1 ∧ (m.load a).1.1 < 18446744073709551616 := by
  obtain ⟨ho, hw, hl, vw, vn, hb, h1, h2⟩ := h
  unfold Mem.load
  by_cases hh : m.has a = true
  · rw [if_pos hh]
    show 0 ≤ m.ws.getD a.toNat 0 ∧ m.ws.getD a.toNat 0 < _
    have hlt : a.toNat < m.ws.length := by
      simp only [Mem.has, decide_eq_true_eq] at hh
      omega
    rw [List.getD_eq_getElem?_getD, List.getElem?_eq_getElem hlt]
    exact hw _ (List.getElem_mem hlt)
  · rw [if_neg hh]
    exact ⟨by simp, by simp⟩

/-- A pick of a live one. -/
theorem GoT.pick {w W : World} {z o : Nat → Nat} {n p pm pr : Nat} {L : List Ad} {m : Mem} {k : Int} (h : GoT w z n p pm pr L m k W o) {j : Nat} {A : Ad} (hA : L[j]? = some A) (hl : A.live = true) (k0 : 0 ≤ k) (k1 : k < 1000000) (hn : m.ns.length < 1000000) (hd : A.did < 999999) :
    Calls Try.prog 40 #[.pointer (some ⟨p, 0, none⟩), .int .i64 (j : Int)] W fun e W' => e = .returned (.tuple #[.int .i64 (A.go m).1.1, .int .u64 (A.go m).1.2, .int .i64 0]) ∧ ∃ o', Fr TS4 W W' o o' ∧ GoT w z n p pm pr (L.set j (A.go m).2.1) (A.go m).2.2 (k + 1) W' o' := by
  have hj : j < L.length := by
    rcases Nat.lt_or_ge j L.length with h1 | h1
    · exact h1
    · rw [List.getElem?_eq_none h1] at hA; cases hA
  have hj8 : j < 8 := by have := h.len; have := h.n8; omega
  have hAm : A ∈ L := List.mem_of_getElem? hA
  have hok := h.ok A hAm
  have hval : A.val = .iface 90 (.pointer (some ⟨A.q, 0, none⟩)) := by unfold Ad.val; rw [if_pos hl]
  have hus : (1 : Nat) ∉ [10 + j, 50, 50 + 1, 50 + 2] ∧ (1 : Nat) + 1 ∉ [10 + j, 50, 50 + 1, 50 + 2] := by simp; omega
  have hB : ∀ (A' : Ad) (m' : Mem) (st v : Int), A.go m = ((st, v), A', m') → (st = 0 → A'.val = A.val) → (st ≠ 0 → A'.val = .nilIface) → A'.Ok →
      (∀ V o2, Fr [1] W V o o2 → Calls Try.prog 130 #[.pointer (some ⟨A.q, 0, none⟩), .pointer (some ⟨pm, 0, none⟩), .pointer (some ⟨pr, 0, none⟩)] V
        (Post [10 + j, 50, 50 + 1, 50 + 2] V o2 (.tuple #[.int .i64 st, .int .u64 v]) (fun w' ow' => IsAdder (10 + j) A'.q A'.at_ A'.most A'.by_ A'.read A'.x A'.did w' ow' ∧ IsMem 50 pm m' w' ow'))) →
      Calls Try.prog 40 #[.pointer (some ⟨p, 0, none⟩), .int .i64 (j : Int)] W fun e W' => e = .returned (.tuple #[.int .i64 (A.go m).1.1, .int .u64 (A.go m).1.2, .int .i64 0]) ∧ ∃ o', Fr TS4 W W' o o' ∧ GoT w z n p pm pr (L.set j (A.go m).2.1) (A.go m).2.2 (k + 1) W' o' := by
    intro A' m' st v he h0 h1 hok' hS
    rw [he]
    have hp := pick_adder 1 p pm pr A.q (thA n L) k j st v [10 + j, 50, 50 + 1, 50 + 2] (fun w' ow' => IsAdder (10 + j) A'.q A'.at_ A'.most A'.by_ A'.read A'.x A'.did w' ow' ∧ IsMem 50 pm m' w' ow') W o h.sched
      (by rw [thA_len h.len]; exact h.n8) (by rw [thA_len h.len]; have := h.len; omega) (thA_mach n L) (by rw [thA_get hA, hval]) k0 (by omega) hus hS
      (fun W1 W2 o1 o2 hq hf => ⟨Locl.keep IsAdder.loc hq.1 hf (by simp; omega), Locl.keep IsMem.loc hq.2 hf (by simp)⟩)
    refine hp.mono ?_
    rintro e W' ⟨rfl, o', hf, hs, ha, hm⟩
    have hsub : ∀ x ∈ [1, 1 + 1, 10 + j, 50, 50 + 1, 50 + 2], x ∈ TS4 := by
      intro x hx
      simp only [List.mem_cons, List.not_mem_nil, or_false] at hx
      rcases hx with rfl | rfl | rfl | rfl | rfl | rfl
      · simp [TS4]
      · simp [TS4]
      · exact mem_10 hj8
      · simp [TS4]
      · simp [TS4]
      · simp [TS4]
    refine ⟨rfl, o', hf.mono hsub, h.fr.trans hf hsub, ?_, hm, Locl.keep IsSrc.loc h.src hf (by simp; omega), ?_, ?_, by rw [List.length_set]; exact h.len, h.n8, h.n1⟩
    · have : freed (thA n L) j st = thA n (L.set j A') := by
        by_cases h3 : st = 0
        · rw [h3, freed_0, thA_same hA (h0 h3)]
        · rw [freed_1 _ _ h3, ← h1 h3, thA_set hj]
      rw [← this]
      exact hs
    · intro i B hi
      rw [List.getElem?_set] at hi
      by_cases hij : j = i
      · subst hij
        rw [if_pos rfl, if_pos hj] at hi
        injection hi with hi
        subst hi
        exact ha
      · rw [if_neg hij] at hi
        have hi8 : i < 8 := by
          have : i < L.length := by
            rcases Nat.lt_or_ge i L.length with h1 | h1
            · exact h1
            · rw [List.getElem?_eq_none h1] at hi; cases hi
          have := h.len
          have := h.n8
          omega
        exact Locl.keep IsAdder.loc (h.ads i B hi) hf (by simp; omega)
    · intro B hi
      rcases List.mem_or_eq_of_mem_set hi with h1 | h1
      · exact h.ok B h1
      · exact h1 ▸ hok'
  have hdt : 10 + j < 50 := by omega
  have hkeepA : ∀ V o2, Fr [1] W V o o2 → IsAdder (10 + j) A.q A.at_ A.most A.by_ A.read A.x A.did V o2 := fun V o2 hf => Locl.keep IsAdder.loc (h.ads j A hA) hf (by simp; omega)
  have hkeepM : ∀ V o2, Fr [1] W V o o2 → IsMem 50 pm m V o2 := fun V o2 hf => Locl.keep IsMem.loc h.mem hf (by simp)
  cases hr : A.read with
  | false =>
    refine hB { A with read := true, x := (m.load A.at_).1.1 } (m.load A.at_).2 0 0 (by unfold Ad.go; rw [if_pos hr]) (fun _ => rfl) (fun hh => absurd rfl hh) ⟨load_rng h.mem A.at_, hok.2⟩ ?_
    intro V o2 hf
    have ha := hkeepA V o2 hf
    rw [hr] at ha
    exact adder_read (10 + j) A.q 50 pm A.at_ A.most A.by_ A.x A.did m _ V o2 ha (hkeepM V o2 hf) (by omega) hdt
  | true =>
    by_cases hm : A.did + 1 < A.most
    · refine hB { A with read := false, did := A.did + 1 } (m.store A.at_ A.sum).2 0 0 (by unfold Ad.go; rw [if_neg (by rw [hr]; simp), if_pos hm]) (fun _ => rfl) (fun hh => absurd rfl hh) ⟨hok.1, hok.2.1, by have := hok.2.2.1; show (0 : Int) ≤ A.did + 1; omega, by show A.did + 1 < _; omega⟩ ?_
      intro V o2 hf
      have ha := hkeepA V o2 hf
      rw [hr] at ha
      exact adder_run (10 + j) A.q 50 pm A.at_ A.most A.by_ A.x A.did A.sum m _ V o2 ha (hkeepM V o2 hf) (by omega) hdt hok.1 hok.2.1 rfl hok.2.2.1 (by omega) hm
    · refine hB { A with read := false, did := A.did + 1, live := false } (m.store A.at_ A.sum).2 1 A.sum (by unfold Ad.go; rw [if_neg (by rw [hr]; simp), if_neg hm]) (fun hh => by cases hh) (fun _ => rfl) ⟨hok.1, hok.2.1, by have := hok.2.2.1; show (0 : Int) ≤ A.did + 1; omega, by show A.did + 1 < _; omega⟩ ?_
      intro V o2 hf
      have ha := hkeepA V o2 hf
      rw [hr] at ha
      exact adder_end (10 + j) A.q 50 pm A.at_ A.most A.by_ A.x A.did A.sum m _ V o2 ha (hkeepM V o2 hf) (by omega) hdt hok.1 hok.2.1 rfl hok.2.2.1 (by omega) hm
/-- A pick of one at its end. -/
theorem GoT.idle {w W : World} {z o : Nat → Nat} {n p pm pr : Nat} {L : List Ad} {m : Mem} {k : Int} (h : GoT w z n p pm pr L m k W o) {j : Nat} {A : Ad} (hA : L[j]? = some A) (hl : A.live = false) :
    Calls Try.prog 40 #[.pointer (some ⟨p, 0, none⟩), .int .i64 (j : Int)] W fun e W' => e = .returned (.tuple #[.int .i64 0, .int .u64 0, .int .i64 6]) ∧ W = W' := by
  have hj : j < L.length := by
    rcases Nat.lt_or_ge j L.length with h1 | h1
    · exact h1
    · rw [List.getElem?_eq_none h1] at hA; cases hA
  have hv : A.val = .nilIface := by unfold Ad.val; rw [if_neg (by rw [hl]; simp)]
  have := h.len
  have := h.n8
  have := h.n1
  refine pick_idle 1 p pm pr (thA n L) k (j : Int) W o h.sched ?_ (by rw [thA_len h.len]; exact h.n8) (by rw [thA_len h.len]; omega) (thA_mach n L) (busy_nil (by rw [thA_get hA, hv]))
  intro e
  have := thA_len h.len
  rw [e] at this
  simp at this
  omega
theorem GoT.busy {w W : World} {z o : Nat → Nat} {n p pm pr : Nat} {L : List Ad} {m : Mem} {k : Int} (h : GoT w z n p pm pr L m k W o) {j : Nat} {A : Ad} (hA : L[j]? = some A) :
    Calls Try.prog 42 #[.pointer (some ⟨p, 0, none⟩), .int .i64 (j : Int)] W fun e W' => e = .returned (.bool A.live) ∧ W = W' := by
  have hj : j < L.length := by
    rcases Nat.lt_or_ge j L.length with h1 | h1
    · exact h1
    · rw [List.getElem?_eq_none h1] at hA; cases hA
  have h1 := h.len
  have h2 := h.n8
  have h3 := h.n1
  have hne : thA n L ≠ [] := by
    intro e
    have := thA_len h.len
    rw [e] at this
    simp at this
    omega
  have hb := busy_calls 1 p pm pr (thA n L) k (j : Int) W o h.sched hne (by rw [thA_len h.len]; exact h.n8) (by omega) (thA_mach n L)
  have e : busyAt (thA n L) (j : Int) = A.live := by
    cases hl : A.live with
    | true => exact busy_is (T := 90) (v := .pointer (some ⟨A.q, 0, none⟩)) (by rw [thA_get hA]; unfold Ad.val; rw [if_pos hl])
    | false => exact busy_nil (by rw [thA_get hA]; unfold Ad.val; rw [if_neg (by rw [hl]; simp)])
  rw [e] at hb
  exact hb
/-- One that begins. -/
theorem GoT.begin {w W : World} {z o : Nat → Nat} {n p pm pr : Nat} {L : List Ad} {m : Mem} {k : Int} (h : GoT w z n p pm pr L m k W o) (hL : L.length < n) (at_ most by_ : Int) (hby : 0 ≤ by_ ∧ by_ < 18446744073709551616) :
    Calls Try.prog 39 #[.pointer (some ⟨p, 0, none⟩), .int .i64 (L.length : Int), .iface 90 (.pointer (some ⟨W.heap.size, 0, none⟩))] (W.alloc (.cells #[.int .i64 at_, .int .i64 most, .int .u64 by_, .bool false, .int .u64 0, .int .i64 0] 92))
      fun e W' => e = .returned (.int .i64 0) ∧ ∃ o', GoT w z n p pm pr (L ++ [⟨W.heap.size, at_, most, by_, false, 0, 0, true⟩]) m k W' o' := by
  have fa := (Fr.refl [] W o).alloc (.cells #[.int .i64 at_, .int .i64 most, .int .u64 by_, .bool false, .int .u64 0, .int .i64 0] 92) (10 + L.length)
  have h1 := h.next fa
  have h8 := h.n8
  have hb := begin_ok 1 p pm pr (thA n L) k L.length 90 (.pointer (some ⟨W.heap.size, 0, none⟩)) .nilIface _ _ h1.sched (by rw [thA_len h.len]; exact h.n8) (by rw [thA_len h.len]; exact hL) (thA_mach n L) (busy_nil (thA_next hL))
  refine hb.mono ?_
  rintro e W' ⟨rfl, o', hf, hs⟩
  refine ⟨rfl, o', h1.fr.trans hf (by simp [TS4]), ?_, Locl.keep IsMem.loc h1.mem hf (by simp), Locl.keep IsSrc.loc h1.src hf (by simp), ?_, ?_, by simp; omega, h.n8, h.n1⟩
  · rw [← thA_push hL]
    exact hs
  · intro i B hi
    rcases Nat.lt_or_ge i L.length with hlt | hge
    · rw [List.getElem?_append_left hlt] at hi
      exact Locl.keep IsAdder.loc (h1.ads i B hi) hf (by simp; omega)
    · rw [List.getElem?_append_right hge] at hi
      have hi0 : i = L.length := by
        rcases Nat.lt_or_ge (i - L.length) 1 with h2 | h2
        · omega
        · rw [List.getElem?_eq_none (by simpa using h2)] at hi; cases hi
      subst hi0
      simp at hi
      subst hi
      have hnew : IsAdder (10 + L.length) W.heap.size at_ most by_ false 0 0 (W.alloc (.cells #[.int .i64 at_, .int .i64 most, .int .u64 by_, .bool false, .int .u64 0, .int .i64 0] 92)) (ext o W.heap.size (10 + L.length)) := ⟨ext_new _ _ _, Blk.new _ _ _⟩
      exact Locl.keep IsAdder.loc hnew hf (by simp; omega)
  · intro B hi
    rcases List.mem_append.mp hi with h2 | h2
    · exact h.ok B h2
    · simp at h2
      subst h2
      exact ⟨⟨by simp, by simp⟩, hby, by simp, by simp⟩
end Go.Proofs.Ytkilpnfgpepfmaa
