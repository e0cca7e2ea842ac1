/- What the plain functions of hatstand answer (slot, pack.Word, source.Deadline): each leaves memory as it was. -/
import Derived.Test.YtkilpnfgpepfmaaProg
import Derived.Test.YtkilpnfgpepfmaaAm
import Derived.Test.YtkilpnfgpepfmaaOwn
import Derived.KernelRfl
import Derived.BigQuiet
import Derived.Outline
import Derived.WalkLawsBesides
import Derived.WalkSpells
set_option linter.unusedSimpArgs false
set_option linter.unusedVariables false
set_option linter.unusedSectionVars false
open Go Go.RowKit Hat
namespace Go.Proofs.Ytkilpnfgpepfmaa
set_option maxHeartbeats 1000000
set_option maxRecDepth 100000

theorem ret_int {k : IntKind} {a b : Int} (h : a = b) : Ending.returned (.int k a) = .returned (.int k b) := by rw [h]
theorem ret_bool {a b : Bool} (h : a = b) : Ending.returned (.bool a) = .returned (.bool b) := by rw [h]
theorem ret_ib {k : IntKind} {a b : Int} {p q : Bool} (h : a = b) (h' : p = q) : Ending.returned (.tuple #[.int k a, .bool p]) = .returned (.tuple #[.int k b, .bool q]) := by rw [h, h']

/-! bits -/
theorem wraps_u64 (n : Int) (h0 : 0 ≤ n) (h1 : n < 2 ^ 64) : IntKind.u64.wrap n = n := by rw [IntKind.wrap_u64]; omega
theorem and_2 (x : Int) (h0 : 0 ≤ x) (h1 : x < 18446744073709551616) : bits BinOp.and IntKind.u64 x 3 = x % 4 :=
  bits_mask .u64 64 (by decide) wraps_u64 2 (by decide) x h0 h1
theorem and_30 (x : Int) (h0 : 0 ≤ x) (h1 : x < 18446744073709551616) : bits BinOp.and IntKind.u64 x 1073741823 = x % 1073741824 :=
  bits_mask .u64 64 (by decide) wraps_u64 30 (by decide) x h0 h1
theorem or_2 (x y : Int) (hx : 0 ≤ x) (hm : x % 4 = 0) (h1 : x < 18446744073709551616) (h2 : 0 ≤ y) (h3 : y < 4) : bits BinOp.or IntKind.u64 x y = x + y :=
  bits_join .u64 64 (by decide) wraps_u64 2 x y hx hm h1 h2 h3 (by omega)
theorem or_32 (x y : Int) (hx : 0 ≤ x) (hm : x % 4294967296 = 0) (h1 : x < 18446744073709551616) (h2 : 0 ≤ y) (h3 : y < 4294967296) : bits BinOp.or IntKind.u64 x y = x + y :=
  bits_join .u64 64 (by decide) wraps_u64 32 x y hx hm h1 h2 h3 (by omega)
theorem or_comm (x y : Int) : bits BinOp.or IntKind.u64 x y = bits BinOp.or IntKind.u64 y x := by
  simp only [bits, BitVec.or_comm]
theorem sword_eq (s i st : Int) (h0 : 0 ≤ s) (h1 : s < 9223372036854775808) (h2 : 0 ≤ i) (h3 : i < 4294967296) (h4 : 0 ≤ st) (h5 : st < 4294967296) :
    bits BinOp.or IntKind.u64 (bits BinOp.or IntKind.u64 (bits BinOp.and IntKind.u64 s 3) (IntKind.u64.wrap (bits BinOp.and IntKind.u64 i 1073741823 * 4))) (st * 4294967296) = sword s i st := by
  rw [and_2 s h0 (by omega), and_30 i h2 (by omega), wraps_u64 _ (by omega) (by omega), or_comm (s % 4), or_2 (i % 1073741824 * 4) (s % 4) (by omega) (by omega) (by omega) (by omega) (by omega),
    or_comm, or_32 (st * 4294967296) (i % 1073741824 * 4 + s % 4) (by omega) (by omega) (by omega) (by omega) (by omega), sword]
  omega

/-! slot -/
theorem sState_calls (x : Int) (w : World) (h0 : 0 ≤ x) (h1 : x < 18446744073709551616) :
    Calls Try.prog 93 #[.int .u64 x] w fun e w' => e = .returned (.int .i64 (sstate x)) ∧ w = w' := by
  go_enter Try.func93, Try.ntmps93
  go_wp2
  go_ret
  refine ⟨ret_int ?_, rfl⟩
  rw [and_2 x h0 h1, sstate]
  unfold wrap64
  omega
theorem sIndex_calls (x : Int) (w : World) (h0 : 0 ≤ x) (h1 : x < 18446744073709551616) :
    Calls Try.prog 102 #[.int .u64 x] w fun e w' => e = .returned (.int .u32 (sindex x)) ∧ w = w' := by
  go_enter Try.func102, Try.ntmps102
  go_wp2
  go_ret
  refine ⟨ret_int ?_, rfl⟩
  rw [and_30 (x / 4) (by omega) (by omega), sindex]
  omega
theorem sStamp_calls (x : Int) (w : World) (h0 : 0 ≤ x) (h1 : x < 18446744073709551616) :
    Calls Try.prog 106 #[.int .u64 x] w fun e w' => e = .returned (.int .u32 (sstamp x)) ∧ w = w' := by
  go_enter Try.func106, Try.ntmps106
  go_wp2
  go_ret
  exact ⟨ret_int rfl, rfl⟩
theorem sWord_calls (s i st : Int) (w : World) (h0 : 0 ≤ s) (h1 : s < 9223372036854775808) (h2 : 0 ≤ i) (h3 : i < 4294967296) (h4 : 0 ≤ st) (h5 : st < 4294967296) :
    Calls Try.prog 26 #[.int .i64 s, .int .u32 i, .int .u32 st] w fun e w' => e = .returned (.int .u64 (sword s i st)) ∧ w = w' := by
  go_enter Try.func26, Try.ntmps26
  go_wp2
  go_ret
  exact ⟨ret_int (sword_eq s i st h0 h1 h2 h3 h4 h5), rfl⟩
theorem sWaits_calls (p : Bool) (w : World) :
    Calls Try.prog 99 #[.bool p] w fun e w' => e = .returned (.int .i64 (waits p)) ∧ w = w' := by
  cases p
  all_goals
    go_enter Try.func99, Try.ntmps99
    go_wp2
    go_ret
    exact ⟨rfl, rfl⟩
theorem sMeets_calls (x : Int) (p : Bool) (w : World) (h0 : 0 ≤ x) (h1 : x < 18446744073709551616) :
    Calls Try.prog 91 #[.int .u64 x, .bool p] w fun e w' => e = .returned (.bool (meets x p)) ∧ w = w' := by
  go_enter Try.func91, Try.ntmps91
  go_wp2_with (first | (go_at_call 93; refine (sState_calls _ _ h0 h1).mono ?_; rintro e w' ⟨rfl, rfl⟩) | (go_at_call 99; refine (sWaits_calls _ _).mono ?_; rintro e w' ⟨rfl, rfl⟩))
  go_ret
  exact ⟨ret_bool (by rw [meets, Bool.eq_iff_iff]; simp), rfl⟩
theorem sword_range (s i st : Int) (h4 : 0 ≤ st) (h5 : st < 4294967296) : 0 ≤ sword s i st ∧ sword s i st < 18446744073709551616 := by unfold sword; omega
theorem sstamp_range (x : Int) (h0 : 0 ≤ x) (h1 : x < 18446744073709551616) : 0 ≤ sstamp x ∧ sstamp x < 4294967296 := by unfold sstamp; omega
theorem sindex_range (x : Int) : 0 ≤ sindex x ∧ sindex x < 1073741824 := by unfold sindex; omega
theorem waits_range (p : Bool) : 0 ≤ waits p ∧ waits p < 3 := by cases p <;> simp [waits]
theorem sOffer_calls (x : Int) (p : Bool) (i : Int) (w : World) (h0 : 0 ≤ x) (h1 : x < 18446744073709551616) (h2 : 0 ≤ i) (h3 : i < 4294967296) :
    Calls Try.prog 103 #[.int .u64 x, .bool p, .int .u32 i] w fun e w' => e = .returned (.tuple #[.int .u64 (offer x p i).1, .bool (offer x p i).2]) ∧ w = w' := by
  have hst := sstamp_range x h0 h1
  have hw := waits_range p
  by_cases hs : sstate x = 0
  · have hd : (sstate x == 0) = true := by simp [hs]
    have hd' : (sstate x != 0) = false := by simp [hs]
    have hfin : offer x p i = (sword (waits p) (if p then i else 0) (sstamp x), true) := by simp [offer, hs]
    rw [hfin]
    clear hfin hs
    cases p
    all_goals
      go_enter Try.func103, Try.ntmps103
      go_wp2_with (first | (go_at_call 93; refine (sState_calls _ _ h0 h1).mono ?_; rintro e w' ⟨rfl, rfl⟩) | (go_at_call 99; refine (sWaits_calls _ _).mono ?_; rintro e w' ⟨rfl, rfl⟩) | (go_at_call 106; refine (sStamp_calls _ _ h0 h1).mono ?_; rintro e w' ⟨rfl, rfl⟩) | (go_at_call 26; refine (sWord_calls _ _ _ _ hw.1 (by omega) (by omega) (by omega) hst.1 hst.2).mono ?_; rintro e w' ⟨rfl, rfl⟩))
      go_ret2
      exact ⟨rfl, rfl⟩
  · have hd : (sstate x == 0) = false := by simp [hs]
    have hd' : (sstate x != 0) = true := by simp [hs]
    have hfin : offer x p i = (0, false) := by simp [offer, hs]
    rw [hfin]
    clear hfin hs
    go_enter Try.func103, Try.ntmps103
    go_wp2_with (first | (go_at_call 93; refine (sState_calls _ _ h0 h1).mono ?_; rintro e w' ⟨rfl, rfl⟩))
    go_ret2
    exact ⟨rfl, rfl⟩
theorem sClaim_calls (x : Int) (p : Bool) (i : Int) (w : World) (h0 : 0 ≤ x) (h1 : x < 18446744073709551616) (h2 : 0 ≤ i) (h3 : i < 4294967296) :
    Calls Try.prog 100 #[.int .u64 x, .bool p, .int .u32 i] w fun e w' => e = .returned (.tuple #[.int .u64 (claim x p i).1, .bool (claim x p i).2]) ∧ w = w' := by
  have hst := sstamp_range x h0 h1
  have hix := sindex_range x
  cases hs : meets x p with
  | true =>
    have hfin : claim x p i = (sword 3 (if p then i else sindex x) (sstamp x), true) := by simp [claim, hs]
    rw [hfin]
    clear hfin
    cases p
    all_goals
      go_enter Try.func100, Try.ntmps100
      go_wp2_with (first | (go_at_call 91; refine (sMeets_calls _ _ _ h0 h1).mono ?_; rintro e w' ⟨rfl, rfl⟩) | (go_at_call 102; refine (sIndex_calls _ _ h0 h1).mono ?_; rintro e w' ⟨rfl, rfl⟩) | (go_at_call 106; refine (sStamp_calls _ _ h0 h1).mono ?_; rintro e w' ⟨rfl, rfl⟩) | (go_at_call 26; refine (sWord_calls _ _ _ _ (by omega) (by omega) (by omega) (by omega) hst.1 hst.2).mono ?_; rintro e w' ⟨rfl, rfl⟩))
      go_ret2
      exact ⟨rfl, rfl⟩
  | false =>
    have hfin : claim x p i = (0, false) := by simp [claim, hs]
    rw [hfin]
    clear hfin
    go_enter Try.func100, Try.ntmps100
    go_wp2_with (first | (go_at_call 91; refine (sMeets_calls _ _ _ h0 h1).mono ?_; rintro e w' ⟨rfl, rfl⟩))
    go_ret2
    exact ⟨rfl, rfl⟩
theorem sClear_calls (x : Int) (w : World) (h0 : 0 ≤ x) (h1 : x < 18446744073709551616) :
    Calls Try.prog 113 #[.int .u64 x] w fun e w' => e = .returned (.int .u64 (sclear x)) ∧ w = w' := by
  have hst := sstamp_range x h0 h1
  go_enter Try.func113, Try.ntmps113
  go_wp2_with (first | (go_at_call 106; refine (sStamp_calls _ _ h0 h1).mono ?_; rintro e w' ⟨rfl, rfl⟩) | (go_at_call 26; refine (sWord_calls _ _ _ _ (by omega) (by omega) (by omega) (by omega) (by omega) (by omega)).mono ?_; rintro e w' ⟨rfl, rfl⟩))
  go_ret
  exact ⟨ret_int (by rw [sclear]), rfl⟩

/-! pack, source -/
theorem pWord_calls (i t : Int) (w : World) (h2 : 0 ≤ i) (h3 : i < 4294967296) (h4 : 0 ≤ t) (h5 : t < 4294967296) :
    Calls Try.prog 73 #[.int .u32 i, .int .u32 t] w fun e w' => e = .returned (.int .u64 (pword i t)) ∧ w = w' := by
  go_enter Try.func73, Try.ntmps73
  go_wp2
  go_ret
  exact ⟨ret_int (by rw [or_comm, or_32 _ _ (by omega) (by omega) (by omega) (by omega) (by omega), pword]; omega), rfl⟩
theorem deadline_calls (a b : Int) (w : World) (h0 : 0 ≤ a) (h1 : a < 18446744073709551616) (h2 : 0 ≤ b) (h3 : b < 18446744073709551616) :
    Calls Try.prog 50 #[.int .u64 a, .int .u64 b] w fun e w' => e = .returned (.int .u64 (deadline a b)) ∧ w = w' := by
  go_enter Try.func50, Try.ntmps50
  go_wp2
  all_goals
    go_ret
    exact ⟨ret_int (by unfold deadline; omega), rfl⟩
end Go.Proofs.Ytkilpnfgpepfmaa
