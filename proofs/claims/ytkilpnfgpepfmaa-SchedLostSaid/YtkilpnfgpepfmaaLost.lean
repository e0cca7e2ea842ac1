/- hatstandlaw16.SchedLost: the walk. -/
import Derived.Test.YtkilpnfgpepfmaaAdd
set_option linter.unusedSimpArgs false
set_option linter.unusedVariables false
set_option linter.unusedSectionVars false
open Go Go.RowKit Hat
namespace Go.Proofs.Ytkilpnfgpepfmaa
set_option maxHeartbeats 4000000
set_option maxRecDepth 100000

/-- The adders, the memory, the last word told, behind k picks of the threads ord. -/
def loS (ord : Nat → Nat) (A0 : Ad) (L : List Ad) (m : Mem) : Nat → List Ad × Mem × Int
  | 0 => (L, m, 0)
  | k + 1 => ((loS ord A0 L m k).1.set (ord k) (((loS ord A0 L m k).1.getD (ord k) A0).go (loS ord A0 L m k).2.1).2.1, (((loS ord A0 L m k).1.getD (ord k) A0).go (loS ord A0 L m k).2.1).2.2, (((loS ord A0 L m k).1.getD (ord k) A0).go (loS ord A0 L m k).2.1).1.2)
def ordI (k : Nat) : Nat := if k = 0 then 0 else if k = 1 then 1 else if k = 2 then 0 else 1
def ordN (k : Nat) : Nat := if k = 0 then 0 else if k = 1 then 0 else 1
def lostS (ord : Nat → Nat) (qa qb : Nat) (a b : Int) (k : Nat) : List Ad × Mem × Int := loS ord ⟨qa, 0, 1, a, false, 0, 0, true⟩ [⟨qa, 0, 1, a, false, 0, 0, true⟩, ⟨qb, 0, 1, b, false, 0, 0, true⟩] ⟨[5], []⟩ k
def lostA (ord : Nat → Nat) (qa qb : Nat) (a b : Int) (k : Nat) : Ad := (lostS ord qa qb a b k).1.getD (ord k) ⟨qa, 0, 1, a, false, 0, 0, true⟩

structure GoO (w : World) (z : Nat → Nat) (p pm pr bo : Nat) (cs : Array Value) (L : List Ad) (m : Mem) (k : Int) (W : World) (o : Nat → Nat) : Prop where
  go : GoT w z 2 p pm pr L m k W o
  ord : Blk W bo 3 cs
  own : o bo = 0
theorem GoO.next {w W W' : World} {z o o' : Nat → Nat} {p pm pr bo : Nat} {cs : Array Value} {L : List Ad} {m : Mem} {k : Int} (h : GoO w z p pm pr bo cs L m k W o) (hf : Fr [] W W' o o') : GoO w z p pm pr bo cs L m k W' o' :=
  ⟨h.go.next hf, hf.blk h.ord (by simp), (hf.own h.ord).trans h.own⟩
theorem GoO.pick {w W : World} {z o : Nat → Nat} {p pm pr bo : Nat} {cs : Array Value} {L : List Ad} {m : Mem} {k : Int} (h : GoO w z p pm pr bo cs L m k W o) {j : Nat} {A : Ad} (hA : L[j]? = some A) (hl : A.live = true) (k0 : 0 ≤ k) (k1 : k < 1000000) (hn : m.ns.length < 1000000) (hd : A.did < 999999) :
    Calls Try.prog 40 #[.pointer (some ⟨p, 0, none⟩), .int .i64 (j : Int)] W fun e W' => e = .returned (.tuple #[.int .i64 (A.go m).1.1, .int .u64 (A.go m).1.2, .int .i64 0]) ∧ ∃ o', GoO w z p pm pr bo cs (L.set j (A.go m).2.1) (A.go m).2.2 (k + 1) W' o' := by
  refine (h.go.pick hA hl k0 k1 hn hd).mono ?_
  rintro e W' ⟨he, o', hf, hg⟩
  exact ⟨he, o', hg, hf.blk h.ord (by rw [h.own]; simp [TS4]), (hf.own h.ord).trans h.own⟩
theorem lostPick {ord : Nat → Nat} {qa qb : Nat} {a b : Int} {w W : World} {z o : Nat → Nat} {p pm pr bo : Nat} {cs : Array Value} {k j : Nat} (h : GoO w z p pm pr bo cs (lostS ord qa qb a b k).1 (lostS ord qa qb a b k).2.1 k W o)
    (hj : ord k = j) (hk : k < 4) (hA : (lostS ord qa qb a b k).1[ord k]? = some (lostA ord qa qb a b k)) (hl : (lostA ord qa qb a b k).live = true) (hn : (lostS ord qa qb a b k).2.1.ns.length < 1000000) (hd : (lostA ord qa qb a b k).did < 999999) :
    Calls Try.prog 40 #[.pointer (some ⟨p, 0, none⟩), .int .i64 (j : Int)] W fun e W' => e = .returned (.tuple #[.int .i64 ((lostA ord qa qb a b k).go (lostS ord qa qb a b k).2.1).1.1, .int .u64 (lostS ord qa qb a b (k + 1)).2.2, .int .i64 0]) ∧ ∃ o', GoO w z p pm pr bo cs (lostS ord qa qb a b (k + 1)).1 (lostS ord qa qb a b (k + 1)).2.1 ((k + 1 : Nat) : Int) W' o' := by
  subst hj
  exact h.pick hA hl (by omega) (by omega) hn hd
theorem lost4 {p : Nat → Prop} (h0 : p 0) (h1 : p 1) (h2 : p 2) (h3 : p 3) (k : Nat) (h : k < 4) : p k := by
  match k with
  | 0 => exact h0
  | 1 => exact h1
  | 2 => exact h2
  | 3 => exact h3
structure LostOk (ord : Nat → Nat) (qa qb : Nat) (a b : Int) (k : Nat) : Prop where
  at_ : (lostS ord qa qb a b k).1[ord k]? = some (lostA ord qa qb a b k)
  live : (lostA ord qa qb a b k).live = true
  ns : (lostS ord qa qb a b k).2.1.ns.length < 1000000
  did : (lostA ord qa qb a b k).did < 999999
theorem lostI_ok (qa qb : Nat) (a b : Int) (k : Nat) (hk : k < 4) : LostOk ordI qa qb a b k :=
  lost4 (p := LostOk ordI qa qb a b) ⟨rfl, rfl, by show (0 : Nat) < _; decide, by show (0 : Int) < _; decide⟩ ⟨rfl, rfl, by show (1 : Nat) < _; decide, by show (0 : Int) < _; decide⟩ ⟨rfl, rfl, by show (2 : Nat) < _; decide, by show (0 : Int) < _; decide⟩ ⟨rfl, rfl, by show (3 : Nat) < _; decide, by show (0 : Int) < _; decide⟩ k hk
theorem lostN_ok (qa qb : Nat) (a b : Int) (k : Nat) (hk : k < 4) : LostOk ordN qa qb a b k :=
  lost4 (p := LostOk ordN qa qb a b) ⟨rfl, rfl, by show (0 : Nat) < _; decide, by show (0 : Int) < _; decide⟩ ⟨rfl, rfl, by show (1 : Nat) < _; decide, by show (0 : Int) < _; decide⟩ ⟨rfl, rfl, by show (2 : Nat) < _; decide, by show (0 : Int) < _; decide⟩ ⟨rfl, rfl, by show (3 : Nat) < _; decide, by show (0 : Int) < _; decide⟩ k hk
theorem ordI_at (k : Nat) (hk : k < 4) : (#[.int .i64 0, .int .i64 1, .int .i64 0, .int .i64 1] : Array Value)[k]? = some (.int .i64 ((ordI k : Nat) : Int)) :=
  lost4 (p := fun k => (#[.int .i64 0, .int .i64 1, .int .i64 0, .int .i64 1] : Array Value)[k]? = some (.int .i64 ((ordI k : Nat) : Int))) rfl rfl rfl rfl k hk
theorem ordN_at (k : Nat) (hk : k < 4) : (#[.int .i64 0, .int .i64 0, .int .i64 1, .int .i64 1] : Array Value)[k]? = some (.int .i64 ((ordN k : Nat) : Int)) :=
  lost4 (p := fun k => (#[.int .i64 0, .int .i64 0, .int .i64 1, .int .i64 1] : Array Value)[k]? = some (.int .i64 ((ordN k : Nat) : Int))) rfl rfl rfl rfl k hk
theorem lostI_end (qa qb : Nat) (a b : Int) : lostS ordI qa qb a b 4 = ([⟨qa, 0, 1, a, false, 5, 1, false⟩, ⟨qb, 0, 1, b, false, 5, 1, false⟩], ⟨[(5 + b) % 18446744073709551616], [⟨108, 0, 5, 5, true⟩, ⟨108, 0, 5, 5, true⟩, ⟨115, 0, 5, (5 + a) % 18446744073709551616, true⟩, ⟨115, 0, (5 + a) % 18446744073709551616, (5 + b) % 18446744073709551616, true⟩]⟩, (5 + b) % 18446744073709551616) := rfl
theorem lostN_end (qa qb : Nat) (a b : Int) : lostS ordN qa qb a b 4 = ([⟨qa, 0, 1, a, false, 5, 1, false⟩, ⟨qb, 0, 1, b, false, (5 + a) % 18446744073709551616, 1, false⟩], ⟨[(5 + a + b) % 18446744073709551616], [⟨108, 0, 5, 5, true⟩, ⟨115, 0, 5, (5 + a) % 18446744073709551616, true⟩, ⟨108, 0, (5 + a) % 18446744073709551616, (5 + a) % 18446744073709551616, true⟩, ⟨115, 0, (5 + a) % 18446744073709551616, (5 + a + b) % 18446744073709551616, true⟩]⟩, (5 + a + b) % 18446744073709551616) := by
  have e : ((5 + a) % 18446744073709551616 + b) % 18446744073709551616 = (5 + a + b) % 18446744073709551616 := Int.emod_add_emod _ _ _
  rw [← e]
  rfl

theorem lost_turns (a b : Int) (w : World) (a0 : 0 ≤ a) (a1 : a < 18446744073709551616) (b0 : 0 ≤ b) (b1 : b < 18446744073709551616) :
    Calls Try.prog 8 #[.int .u64 a, .int .u64 b, .bool true] w fun e w' => e = .returned (.bool true) ∧ Below w.heap.size w w' := by
  have HA := hid (And.intro a0 a1)
  have HB := hid (And.intro b0 b1)
  clear a0 a1 b0 b1
  have W1 : IntKind.u64.wrap (5 + b) = (5 + b) % 18446744073709551616 := IntKind.wrap_u64 _
  have W2 : IntKind.u64.wrap (5 + a) = (5 + a) % 18446744073709551616 := IntKind.wrap_u64 _
  have W3 : IntKind.u64.wrap ((5 + a) % 18446744073709551616 + b) = ((5 + a) % 18446744073709551616 + b) % 18446744073709551616 := IntKind.wrap_u64 _
  go_enter Try.func8, Try.ntmps8
  go_wp2_with fail
  go_at_call 37
  refine (shown16_calls _ (fun _ => 0)).mono ?_
  rintro e w1 ⟨rfl, o1, hf1⟩
  go_wp2_with fail
  go_at_call 38
  refine (schedNew_ok 1 50 60 _ [5] 2 _ o1 (rd_one (Blk.new w1 _ _)) (by simp) (by simp) (by omega) (by omega)).mono ?_
  rintro e w2 ⟨p, pm, pr, rfl, o2, hf2, hs2, hm2, hr2⟩
  have G2 : Hid (GoT w (fun _ => 0) 2 p pm pr [] ⟨[5], []⟩ 0 w2 o2) := hid ⟨((hf1.trans ((Fr.refl [] w1 o1).alloc0 _) (by simp)).trans hf2 (by simp)).mono (by simp), hs2, hm2, hr2, (fun j A h => by simp at h), (fun A h => by simp at h), by simp, by omega, by omega⟩
  clear hf1 hf2 hs2 hm2 hr2
  go_wp2_with fail
  go_at_call 39
  refine (G2.out.begin (by simp) 0 1 a HA.out).mono ?_
  rintro e w3 ⟨rfl, o3, hg3⟩
  have G3 := hid hg3
  clear hg3 G2
  go_wp2_with fail
  go_at_call 39
  refine (G3.out.begin (by simp) 0 1 b HB.out).mono ?_
  rintro e w4 ⟨rfl, o4, hg4⟩
  have G4 := hid hg4
  clear hg4 G3
  generalize w2.heap.size = qa at *
  generalize w3.heap.size = qb at *
  go_wp2_with fail
  try simp only [W1, W2, W3]
  have G5 : Hid (GoO w (fun _ => 0) p pm pr (w4.heap.size + 1) #[.int .i64 0, .int .i64 1, .int .i64 0, .int .i64 1] (lostS ordI qa qb a b 0).1 (lostS ordI qa qb a b 0).2.1 ((0 : Nat) : Int) _ _) := hid ⟨G4.out.next (((Fr.refl [] w4 o4).alloc (.cells #[.int .i64 0, .int .i64 0, .int .i64 1, .int .i64 1] 3) 0).alloc (.cells #[.int .i64 0, .int .i64 1, .int .i64 0, .int .i64 1] 3) 0), Blk.new' _ _ _ _ (by simp), by simp [ext]⟩
  generalize (w4.alloc (.cells #[.int .i64 0, .int .i64 0, .int .i64 1, .int .i64 1] 3)).alloc (.cells #[.int .i64 0, .int .i64 1, .int .i64 0, .int .i64 1] 3) = w5 at *
  generalize w4.heap.size + 1 = bo at *
  generalize ho5 : ext _ _ _ = o5 at *
  clear ho5 G4 W1 W2 W3
  go_loopw [12, 13, 14, 15, 16] (fun v i _ _ _ wr => ∃ (k : Nat) (o : Nat → Nat), k ≤ 4 ∧ v = .int .u64 (lostS ordI qa qb a b k).2.2 ∧ i = .int .i64 (k : Int) ∧ Hid (GoO w (fun _ => 0) p pm pr bo #[.int .i64 0, .int .i64 1, .int .i64 0, .int .i64 1] (lostS ordI qa qb a b k).1 (lostS ordI qa qb a b k).2.1 (k : Int) wr o))
    (fun _ i _ _ _ _ => 4 - (intOf i).toNat)
  case atStart => exact ⟨0, _, by omega, rfl, by simp, G5⟩
  case round =>
    clear G5
    obtain ⟨k, o, hk, rfl, rfl, HG⟩ := hrel
    cases hlt : decide ((k : Int) < 4) with
    | true =>
      have hk4 : k < 4 := by simp at hlt; omega
      have hk5 : k + 1 ≤ 4 := hk4
      have hcell := HG.out.ord.cell k
      rw [ordI_at k hk4] at hcell
      have hlo := HG.out.ord.lt
      have hfr := HG.out.ord.frozen k
      have k0 : (0 : Int) ≤ (k : Int) := by omega
      have HO := hid (lostI_ok qa qb a b k hk4)
      go_wp2_with fail
      go_at_call 40
      refine (lostPick HG.out rfl hk4 HO.out.at_ HO.out.live HO.out.ns HO.out.did).mono ?_
      rintro e w6 ⟨rfl, o6, hg6⟩
      have HG6 := hid hg6
      clear hg6 hcell hlo hfr
      go_wp2
      go_roundw
      case rel => exact ⟨k + 1, o6, hk5, rfl, by go_num, HG6⟩
      case measure => simp [intOf]; omega
    | false =>
      have hk4 : k = 4 := by simp at hlt; omega
      subst hk4
      rw [lostI_end] at HG ⊢
      go_wp2_with fail
      go_at_call 41
      refine (schedMem_calls 1 p pm pr _ _ _ o HG.out.go.sched).mono ?_
      rintro e w' ⟨rfl, rfl⟩
      go_wp2_with fail
      go_at_call 18
      refine (words_calls 8 50 pm _ _ o HG.out.go.mem).mono ?_
      rintro e w7 ⟨v8, rfl, o7, hf7, hs7⟩
      obtain ⟨b8, n8, c8, rfl, l8, ob8, lt8, hc8, fz8⟩ := hs7.cells (by simp [u64s])
      have hn8 : n8 = 1 := by simp [u64s] at l8; omega
      subst hn8
      have hq8 := hc8 0 (.int .u64 ((5 + b) % 18446744073709551616)) rfl
      have HG7 := hid (HG.out.go.next hf7)
      clear HG hf7 hs7 hc8 l8
      go_wp2_with fail
      go_at_call 42
      refine (HG7.out.busy (j := 0) rfl).mono ?_
      rintro e w' ⟨rfl, rfl⟩
      go_wp2_with fail
      go_at_call 42
      refine (HG7.out.busy (j := 1) rfl).mono ?_
      rintro e w' ⟨rfl, rfl⟩
      go_wp2
      go_ret
      exact ⟨rfl, HG7.out.fr.below (by simp [TS4])⟩

theorem lost_behind (a b : Int) (w : World) (a0 : 0 ≤ a) (a1 : a < 18446744073709551616) (b0 : 0 ≤ b) (b1 : b < 18446744073709551616) :
    Calls Try.prog 8 #[.int .u64 a, .int .u64 b, .bool false] w fun e w' => e = .returned (.bool true) ∧ Below w.heap.size w w' := by
  have HA := hid (And.intro a0 a1)
  have HB := hid (And.intro b0 b1)
  clear a0 a1 b0 b1
  have W1 : IntKind.u64.wrap (5 + b) = (5 + b) % 18446744073709551616 := IntKind.wrap_u64 _
  have W2 : IntKind.u64.wrap (5 + a) = (5 + a) % 18446744073709551616 := IntKind.wrap_u64 _
  have W3 : IntKind.u64.wrap ((5 + a) % 18446744073709551616 + b) = ((5 + a) % 18446744073709551616 + b) % 18446744073709551616 := IntKind.wrap_u64 _
  go_enter Try.func8, Try.ntmps8
  go_wp2_with fail
  go_at_call 37
  refine (shown16_calls _ (fun _ => 0)).mono ?_
  rintro e w1 ⟨rfl, o1, hf1⟩
  go_wp2_with fail
  go_at_call 38
  refine (schedNew_ok 1 50 60 _ [5] 2 _ o1 (rd_one (Blk.new w1 _ _)) (by simp) (by simp) (by omega) (by omega)).mono ?_
  rintro e w2 ⟨p, pm, pr, rfl, o2, hf2, hs2, hm2, hr2⟩
  have G2 : Hid (GoT w (fun _ => 0) 2 p pm pr [] ⟨[5], []⟩ 0 w2 o2) := hid ⟨((hf1.trans ((Fr.refl [] w1 o1).alloc0 _) (by simp)).trans hf2 (by simp)).mono (by simp), hs2, hm2, hr2, (fun j A h => by simp at h), (fun A h => by simp at h), by simp, by omega, by omega⟩
  clear hf1 hf2 hs2 hm2 hr2
  go_wp2_with fail
  go_at_call 39
  refine (G2.out.begin (by simp) 0 1 a HA.out).mono ?_
  rintro e w3 ⟨rfl, o3, hg3⟩
  have G3 := hid hg3
  clear hg3 G2
  go_wp2_with fail
  go_at_call 39
  refine (G3.out.begin (by simp) 0 1 b HB.out).mono ?_
  rintro e w4 ⟨rfl, o4, hg4⟩
  have G4 := hid hg4
  clear hg4 G3
  generalize w2.heap.size = qa at *
  generalize w3.heap.size = qb at *
  go_wp2_with fail
  try simp only [W1, W2, W3]
  have G5 : Hid (GoO w (fun _ => 0) p pm pr w4.heap.size #[.int .i64 0, .int .i64 0, .int .i64 1, .int .i64 1] (lostS ordN qa qb a b 0).1 (lostS ordN qa qb a b 0).2.1 ((0 : Nat) : Int) _ _) := hid ⟨G4.out.next ((Fr.refl [] w4 o4).alloc (.cells #[.int .i64 0, .int .i64 0, .int .i64 1, .int .i64 1] 3) 0), Blk.new _ _ _, by simp [ext]⟩
  generalize w4.alloc (.cells #[.int .i64 0, .int .i64 0, .int .i64 1, .int .i64 1] 3) = w5 at *
  generalize w4.heap.size = bo at *
  generalize ho5 : ext _ _ _ = o5 at *
  clear ho5 G4 W1 W2 W3
  go_loopw [12, 13, 14, 15, 16] (fun v i _ _ _ wr => ∃ (k : Nat) (o : Nat → Nat), k ≤ 4 ∧ v = .int .u64 (lostS ordN qa qb a b k).2.2 ∧ i = .int .i64 (k : Int) ∧ Hid (GoO w (fun _ => 0) p pm pr bo #[.int .i64 0, .int .i64 0, .int .i64 1, .int .i64 1] (lostS ordN qa qb a b k).1 (lostS ordN qa qb a b k).2.1 (k : Int) wr o))
    (fun _ i _ _ _ _ => 4 - (intOf i).toNat)
  case atStart => exact ⟨0, _, by omega, rfl, by simp, G5⟩
  case round =>
    clear G5
    obtain ⟨k, o, hk, rfl, rfl, HG⟩ := hrel
    cases hlt : decide ((k : Int) < 4) with
    | true =>
      have hk4 : k < 4 := by simp at hlt; omega
      have hk5 : k + 1 ≤ 4 := hk4
      have hcell := HG.out.ord.cell k
      rw [ordN_at k hk4] at hcell
      have hlo := HG.out.ord.lt
      have hfr := HG.out.ord.frozen k
      have k0 : (0 : Int) ≤ (k : Int) := by omega
      have HO := hid (lostN_ok qa qb a b k hk4)
      go_wp2_with fail
      go_at_call 40
      refine (lostPick HG.out rfl hk4 HO.out.at_ HO.out.live HO.out.ns HO.out.did).mono ?_
      rintro e w6 ⟨rfl, o6, hg6⟩
      have HG6 := hid hg6
      clear hg6 hcell hlo hfr
      go_wp2
      go_roundw
      case rel => exact ⟨k + 1, o6, hk5, rfl, by go_num, HG6⟩
      case measure => simp [intOf]; omega
    | false =>
      have hk4 : k = 4 := by simp at hlt; omega
      subst hk4
      rw [lostN_end] at HG ⊢
      go_wp2_with fail
      go_at_call 41
      refine (schedMem_calls 1 p pm pr _ _ _ o HG.out.go.sched).mono ?_
      rintro e w' ⟨rfl, rfl⟩
      go_wp2_with fail
      go_at_call 18
      refine (words_calls 8 50 pm _ _ o HG.out.go.mem).mono ?_
      rintro e w7 ⟨v8, rfl, o7, hf7, hs7⟩
      obtain ⟨b8, n8, c8, rfl, l8, ob8, lt8, hc8, fz8⟩ := hs7.cells (by simp [u64s])
      have hn8 : n8 = 1 := by simp [u64s] at l8; omega
      subst hn8
      have hq8 := hc8 0 (.int .u64 ((5 + a + b) % 18446744073709551616)) rfl
      have HG7 := hid (HG.out.go.next hf7)
      clear HG hf7 hs7 hc8 l8
      go_wp2_with fail
      go_at_call 42
      refine (HG7.out.busy (j := 0) rfl).mono ?_
      rintro e w' ⟨rfl, rfl⟩
      go_wp2_with fail
      go_at_call 42
      refine (HG7.out.busy (j := 1) rfl).mono ?_
      rintro e w' ⟨rfl, rfl⟩
      go_wp2
      go_ret
      exact ⟨rfl, HG7.out.fr.below (by simp [TS4])⟩
end Go.Proofs.Ytkilpnfgpepfmaa
