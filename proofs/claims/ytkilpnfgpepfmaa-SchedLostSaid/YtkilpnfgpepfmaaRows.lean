/-
  No cell of these rows narrows 'for every input' (looked for: loops, veiled, ifaces, maps, wideKeys, modest, calm, conditions, laid).
  DERIVED. THE GIVEN ROWS OF THIS SEAT. 9 by the template 'for every input the law returns true; each argument reads behind the call as it read before'; 0 by the template 'total and deterministic' (their statements: YtkilpnfgpepfmaaTotals.lean).
  GIVEN WITH THE SEED: the statements are not yours to turn. If you find one false, say at which input.
  Laid BY PROGRAM, IN A SANDBOX (cutbox-rows.mjs): the forced cells as the released guide's own fill.sh prints them over the translation 7824062fa912e1d8… (all of the seat's roots in one cut). By AI agents, Wed Nov 11 2026. No macro, syntax, notation, axiom, sorry.
-/
import Derived.Test.YtkilpnfgpepfmaaChecked
import GoSem.Claim
import GoSem.ClaimJoined
import GoSem.ClaimMapViews
import Derived.JoinedTies
import Derived.KernelRfl
namespace Go.Proofs.Ytkilpnfgpepfmaa
/- THE CELL 'sum', in the pinned program and in every row, IS THE sha256 OF THE DUMP (.gsa) THAT YtkilpnfgpepfmaaProg.lean LOADS. Nothing in Lean hashes anything: it is a label: what it is worth is what the hold of that sum in a sandbox is worth. -/
noncomputable def Try.pinned : Pinned := { name := "ytkilpnfgpepfmaa", sum := "7824062fa912e1d8755cd119b11c2c743d9e60a48944e723bc048906f1f2ffde", checked := Try.checked }
namespace Rows
def none {H : Type} : Left H := { results := [], args := [] }

/-- 'hatstandlaw12.ElimTime': WHATEVER THE INPUT: true; the input reads as it did. -/
def elimTimeSpec : ChangeSpec := { name := "elimTime", fn := fun _ => fun
  | [d1, d2, d3] => { results := [.lit (.bool true)], args := [d1, d2, d3] }
  | _ => none }
def elimTimeRow : OpenClaim := { program := "ytkilpnfgpepfmaa", sum := "7824062fa912e1d8755cd119b11c2c743d9e60a48944e723bc048906f1f2ffde", func := "hatstand/hatstandlaw12.ElimTime", spec := "elimTime", unfollowed := true, recurses := true, apart := false }
def ElimTimeSaid : Prop := elimTimeRow.holds Try.pinned (OpenSpec.ofChange elimTimeSpec)

/-- ITS FALSE NEIGHBOUR: 'it returns false'. Refute it at one input. -/
def elimTimeWrong : ChangeSpec := { name := "elimTime", fn := fun _ => fun
  | [d1, d2, d3] => { results := [.lit (.bool false)], args := [d1, d2, d3] }
  | _ => none }
def ElimTimeWrongFalsely : Prop := elimTimeRow.holds Try.pinned (OpenSpec.ofChange elimTimeWrong)

/-- 'hatstandlaw12.ElimPlace': WHATEVER THE INPUT: true; the input reads as it did. -/
def elimPlaceSpec : ChangeSpec := { name := "elimPlace", fn := fun _ => fun
  | [d1, d2, d3, d4] => { results := [.lit (.bool true)], args := [d1, d2, d3, d4] }
  | _ => none }
def elimPlaceRow : OpenClaim := { program := "ytkilpnfgpepfmaa", sum := "7824062fa912e1d8755cd119b11c2c743d9e60a48944e723bc048906f1f2ffde", func := "hatstand/hatstandlaw12.ElimPlace", spec := "elimPlace", unfollowed := true, recurses := true, apart := false }
def ElimPlaceSaid : Prop := elimPlaceRow.holds Try.pinned (OpenSpec.ofChange elimPlaceSpec)

/-- ITS FALSE NEIGHBOUR: 'it returns false'. Refute it at one input. -/
def elimPlaceWrong : ChangeSpec := { name := "elimPlace", fn := fun _ => fun
  | [d1, d2, d3, d4] => { results := [.lit (.bool false)], args := [d1, d2, d3, d4] }
  | _ => none }
def ElimPlaceWrongFalsely : Prop := elimPlaceRow.holds Try.pinned (OpenSpec.ofChange elimPlaceWrong)

/-- 'hatstandlaw12.ElimPair': WHATEVER THE INPUT: true; the input reads as it did. -/
def elimPairSpec : ChangeSpec := { name := "elimPair", fn := fun _ => fun
  | [d1, d2, d3, d4, d5] => { results := [.lit (.bool true)], args := [d1, d2, d3, d4, d5] }
  | _ => none }
def elimPairRow : OpenClaim := { program := "ytkilpnfgpepfmaa", sum := "7824062fa912e1d8755cd119b11c2c743d9e60a48944e723bc048906f1f2ffde", func := "hatstand/hatstandlaw12.ElimPair", spec := "elimPair", unfollowed := true, recurses := true, apart := false }
def ElimPairSaid : Prop := elimPairRow.holds Try.pinned (OpenSpec.ofChange elimPairSpec)

/-- ITS FALSE NEIGHBOUR: 'it returns false'. Refute it at one input. -/
def elimPairWrong : ChangeSpec := { name := "elimPair", fn := fun _ => fun
  | [d1, d2, d3, d4, d5] => { results := [.lit (.bool false)], args := [d1, d2, d3, d4, d5] }
  | _ => none }
def ElimPairWrongFalsely : Prop := elimPairRow.holds Try.pinned (OpenSpec.ofChange elimPairWrong)

/-- 'hatstandlaw12.ElimNone': WHATEVER THE INPUT: true; the input reads as it did. -/
def elimNoneSpec : ChangeSpec := { name := "elimNone", fn := fun _ => fun
  | [d1, d2, d3] => { results := [.lit (.bool true)], args := [d1, d2, d3] }
  | _ => none }
def elimNoneRow : OpenClaim := { program := "ytkilpnfgpepfmaa", sum := "7824062fa912e1d8755cd119b11c2c743d9e60a48944e723bc048906f1f2ffde", func := "hatstand/hatstandlaw12.ElimNone", spec := "elimNone", unfollowed := true, recurses := true, apart := false }
def ElimNoneSaid : Prop := elimNoneRow.holds Try.pinned (OpenSpec.ofChange elimNoneSpec)

/-- ITS FALSE NEIGHBOUR: 'it returns false'. Refute it at one input. -/
def elimNoneWrong : ChangeSpec := { name := "elimNone", fn := fun _ => fun
  | [d1, d2, d3] => { results := [.lit (.bool false)], args := [d1, d2, d3] }
  | _ => none }
def ElimNoneWrongFalsely : Prop := elimNoneRow.holds Try.pinned (OpenSpec.ofChange elimNoneWrong)

/-- 'hatstandlaw12.ElimSteps': WHATEVER THE INPUT: true; the input reads as it did. -/
def elimStepsSpec : ChangeSpec := { name := "elimSteps", fn := fun _ => fun
  | [d1, d2, d3, d4] => { results := [.lit (.bool true)], args := [d1, d2, d3, d4] }
  | _ => none }
def elimStepsRow : OpenClaim := { program := "ytkilpnfgpepfmaa", sum := "7824062fa912e1d8755cd119b11c2c743d9e60a48944e723bc048906f1f2ffde", func := "hatstand/hatstandlaw12.ElimSteps", spec := "elimSteps", unfollowed := true, recurses := true, apart := false }
def ElimStepsSaid : Prop := elimStepsRow.holds Try.pinned (OpenSpec.ofChange elimStepsSpec)

/-- ITS FALSE NEIGHBOUR: 'it returns false'. Refute it at one input. -/
def elimStepsWrong : ChangeSpec := { name := "elimSteps", fn := fun _ => fun
  | [d1, d2, d3, d4] => { results := [.lit (.bool false)], args := [d1, d2, d3, d4] }
  | _ => none }
def ElimStepsWrongFalsely : Prop := elimStepsRow.holds Try.pinned (OpenSpec.ofChange elimStepsWrong)

/-- 'hatstandlaw16.SchedLost': WHATEVER THE INPUT: true; the input reads as it did. -/
def schedLostSpec : ChangeSpec := { name := "schedLost", fn := fun _ => fun
  | [d1, d2, d3] => { results := [.lit (.bool true)], args := [d1, d2, d3] }
  | _ => none }
def schedLostRow : OpenClaim := { program := "ytkilpnfgpepfmaa", sum := "7824062fa912e1d8755cd119b11c2c743d9e60a48944e723bc048906f1f2ffde", func := "hatstand/hatstandlaw16.SchedLost", spec := "schedLost", unfollowed := true, recurses := true, apart := false }
def SchedLostSaid : Prop := schedLostRow.holds Try.pinned (OpenSpec.ofChange schedLostSpec)

/-- ITS FALSE NEIGHBOUR: 'it returns false'. Refute it at one input. -/
def schedLostWrong : ChangeSpec := { name := "schedLost", fn := fun _ => fun
  | [d1, d2, d3] => { results := [.lit (.bool false)], args := [d1, d2, d3] }
  | _ => none }
def SchedLostWrongFalsely : Prop := schedLostRow.holds Try.pinned (OpenSpec.ofChange schedLostWrong)

/-- 'hatstandlaw16.SchedApart': WHATEVER THE INPUT: true; the input reads as it did. -/
def schedApartSpec : ChangeSpec := { name := "schedApart", fn := fun _ => fun
  | [d1, d2, d3] => { results := [.lit (.bool true)], args := [d1, d2, d3] }
  | _ => none }
def schedApartRow : OpenClaim := { program := "ytkilpnfgpepfmaa", sum := "7824062fa912e1d8755cd119b11c2c743d9e60a48944e723bc048906f1f2ffde", func := "hatstand/hatstandlaw16.SchedApart", spec := "schedApart", unfollowed := true, recurses := true, apart := false }
def SchedApartSaid : Prop := schedApartRow.holds Try.pinned (OpenSpec.ofChange schedApartSpec)

/-- ITS FALSE NEIGHBOUR: 'it returns false'. Refute it at one input. -/
def schedApartWrong : ChangeSpec := { name := "schedApart", fn := fun _ => fun
  | [d1, d2, d3] => { results := [.lit (.bool false)], args := [d1, d2, d3] }
  | _ => none }
def SchedApartWrongFalsely : Prop := schedApartRow.holds Try.pinned (OpenSpec.ofChange schedApartWrong)

/-- 'hatstandlaw16.SchedTurns': WHATEVER THE INPUT: true; the input reads as it did. -/
def schedTurnsSpec : ChangeSpec := { name := "schedTurns", fn := fun _ => fun
  | [d1, d2] => { results := [.lit (.bool true)], args := [d1, d2] }
  | _ => none }
def schedTurnsRow : OpenClaim := { program := "ytkilpnfgpepfmaa", sum := "7824062fa912e1d8755cd119b11c2c743d9e60a48944e723bc048906f1f2ffde", func := "hatstand/hatstandlaw16.SchedTurns", spec := "schedTurns", unfollowed := true, recurses := true, apart := false }
def SchedTurnsSaid : Prop := schedTurnsRow.holds Try.pinned (OpenSpec.ofChange schedTurnsSpec)

/-- ITS FALSE NEIGHBOUR: 'it returns false'. Refute it at one input. -/
def schedTurnsWrong : ChangeSpec := { name := "schedTurns", fn := fun _ => fun
  | [d1, d2] => { results := [.lit (.bool false)], args := [d1, d2] }
  | _ => none }
def SchedTurnsWrongFalsely : Prop := schedTurnsRow.holds Try.pinned (OpenSpec.ofChange schedTurnsWrong)

/-- 'hatstandlaw16.SchedErrs': WHATEVER THE INPUT: true; the input reads as it did. -/
def schedErrsSpec : ChangeSpec := { name := "schedErrs", fn := fun _ => fun
  | [d1, d2, d3] => { results := [.lit (.bool true)], args := [d1, d2, d3] }
  | _ => none }
def schedErrsRow : OpenClaim := { program := "ytkilpnfgpepfmaa", sum := "7824062fa912e1d8755cd119b11c2c743d9e60a48944e723bc048906f1f2ffde", func := "hatstand/hatstandlaw16.SchedErrs", spec := "schedErrs", unfollowed := true, recurses := true, apart := false }
def SchedErrsSaid : Prop := schedErrsRow.holds Try.pinned (OpenSpec.ofChange schedErrsSpec)

/-- ITS FALSE NEIGHBOUR: 'it returns false'. Refute it at one input. -/
def schedErrsWrong : ChangeSpec := { name := "schedErrs", fn := fun _ => fun
  | [d1, d2, d3] => { results := [.lit (.bool false)], args := [d1, d2, d3] }
  | _ => none }
def SchedErrsWrongFalsely : Prop := schedErrsRow.holds Try.pinned (OpenSpec.ofChange schedErrsWrong)

/- THE SECOND FORM. 'bulk': how many values and letters a reading holds, each counted each time it is reached (what is shared counts as often as it is met; a slice's spare places count too). A statement '..UptoSaid' is the law's where the arguments, and the package variables that the reading takes, are together of bulk at most 1048576: NARROWER than '..Said'. Prove '..Said' where nothing that the law and all that it calls make is longer than what came in: it says more and counts as full. Else prove '..UptoSaid'. A law counts once. -/
mutual
def uptoBulk {H : Type} : DataW H → Nat
  | .lit (.string bytes) => bytes.length + 1
  | .lit _ => 1
  | .nil => 1
  | .ptr d => uptoBulk d + 1
  | .slice elems spare => uptoBulkAll elems + uptoBulkAll spare + 1
  | .agg parts => uptoBulkAll parts + 1
  | .iface _ d => uptoBulk d + 1
  | .map entries => uptoBulkEntries entries + 1
  | .held _ => 1
def uptoBulkAll {H : Type} : List (DataW H) → Nat
  | [] => 0
  | d :: r => uptoBulk d + uptoBulkAll r
def uptoBulkEntries {H : Type} : List (Lit × DataW H) → Nat
  | [] => 0
  | x :: r => uptoBulkEntry x + uptoBulkEntries r
def uptoBulkEntry {H : Type} : Lit × DataW H → Nat
  | (.string bytes, d) => bytes.length + uptoBulk d + 1
  | (_, d) => uptoBulk d + 1
 end
def uptoSmall : (H : Type) → List (DataW H) → Bool := fun _ ds => decide (uptoBulkAll ds ≤ 1048576)
def OpenSpec.upto (s : _root_.Go.ChangeSpec) : _root_.Go.OpenSpec := { _root_.Go.OpenSpec.ofChange s with cond := some uptoSmall }

/-- 'hatstandlaw12.ElimTime', WHERE WHAT IT READS IS OF BULK AT MOST 1048576: true; the input reads as it did. -/
def elimTimeUptoRow : OpenClaim := { program := "ytkilpnfgpepfmaa", sum := "7824062fa912e1d8755cd119b11c2c743d9e60a48944e723bc048906f1f2ffde", func := "hatstand/hatstandlaw12.ElimTime", spec := "elimTime", unfollowed := true, recurses := true, apart := false, narrowed := true }
def ElimTimeUptoSaid : Prop := elimTimeUptoRow.holds Try.pinned (OpenSpec.upto elimTimeSpec)

/-- 'hatstandlaw12.ElimPlace', WHERE WHAT IT READS IS OF BULK AT MOST 1048576: true; the input reads as it did. -/
def elimPlaceUptoRow : OpenClaim := { program := "ytkilpnfgpepfmaa", sum := "7824062fa912e1d8755cd119b11c2c743d9e60a48944e723bc048906f1f2ffde", func := "hatstand/hatstandlaw12.ElimPlace", spec := "elimPlace", unfollowed := true, recurses := true, apart := false, narrowed := true }
def ElimPlaceUptoSaid : Prop := elimPlaceUptoRow.holds Try.pinned (OpenSpec.upto elimPlaceSpec)

/-- 'hatstandlaw12.ElimPair', WHERE WHAT IT READS IS OF BULK AT MOST 1048576: true; the input reads as it did. -/
def elimPairUptoRow : OpenClaim := { program := "ytkilpnfgpepfmaa", sum := "7824062fa912e1d8755cd119b11c2c743d9e60a48944e723bc048906f1f2ffde", func := "hatstand/hatstandlaw12.ElimPair", spec := "elimPair", unfollowed := true, recurses := true, apart := false, narrowed := true }
def ElimPairUptoSaid : Prop := elimPairUptoRow.holds Try.pinned (OpenSpec.upto elimPairSpec)

/-- 'hatstandlaw12.ElimNone', WHERE WHAT IT READS IS OF BULK AT MOST 1048576: true; the input reads as it did. -/
def elimNoneUptoRow : OpenClaim := { program := "ytkilpnfgpepfmaa", sum := "7824062fa912e1d8755cd119b11c2c743d9e60a48944e723bc048906f1f2ffde", func := "hatstand/hatstandlaw12.ElimNone", spec := "elimNone", unfollowed := true, recurses := true, apart := false, narrowed := true }
def ElimNoneUptoSaid : Prop := elimNoneUptoRow.holds Try.pinned (OpenSpec.upto elimNoneSpec)

/-- 'hatstandlaw12.ElimSteps', WHERE WHAT IT READS IS OF BULK AT MOST 1048576: true; the input reads as it did. -/
def elimStepsUptoRow : OpenClaim := { program := "ytkilpnfgpepfmaa", sum := "7824062fa912e1d8755cd119b11c2c743d9e60a48944e723bc048906f1f2ffde", func := "hatstand/hatstandlaw12.ElimSteps", spec := "elimSteps", unfollowed := true, recurses := true, apart := false, narrowed := true }
def ElimStepsUptoSaid : Prop := elimStepsUptoRow.holds Try.pinned (OpenSpec.upto elimStepsSpec)

/-- 'hatstandlaw16.SchedLost', WHERE WHAT IT READS IS OF BULK AT MOST 1048576: true; the input reads as it did. -/
def schedLostUptoRow : OpenClaim := { program := "ytkilpnfgpepfmaa", sum := "7824062fa912e1d8755cd119b11c2c743d9e60a48944e723bc048906f1f2ffde", func := "hatstand/hatstandlaw16.SchedLost", spec := "schedLost", unfollowed := true, recurses := true, apart := false, narrowed := true }
def SchedLostUptoSaid : Prop := schedLostUptoRow.holds Try.pinned (OpenSpec.upto schedLostSpec)

/-- 'hatstandlaw16.SchedApart', WHERE WHAT IT READS IS OF BULK AT MOST 1048576: true; the input reads as it did. -/
def schedApartUptoRow : OpenClaim := { program := "ytkilpnfgpepfmaa", sum := "7824062fa912e1d8755cd119b11c2c743d9e60a48944e723bc048906f1f2ffde", func := "hatstand/hatstandlaw16.SchedApart", spec := "schedApart", unfollowed := true, recurses := true, apart := false, narrowed := true }
def SchedApartUptoSaid : Prop := schedApartUptoRow.holds Try.pinned (OpenSpec.upto schedApartSpec)

/-- 'hatstandlaw16.SchedTurns', WHERE WHAT IT READS IS OF BULK AT MOST 1048576: true; the input reads as it did. -/
def schedTurnsUptoRow : OpenClaim := { program := "ytkilpnfgpepfmaa", sum := "7824062fa912e1d8755cd119b11c2c743d9e60a48944e723bc048906f1f2ffde", func := "hatstand/hatstandlaw16.SchedTurns", spec := "schedTurns", unfollowed := true, recurses := true, apart := false, narrowed := true }
def SchedTurnsUptoSaid : Prop := schedTurnsUptoRow.holds Try.pinned (OpenSpec.upto schedTurnsSpec)

/-- 'hatstandlaw16.SchedErrs', WHERE WHAT IT READS IS OF BULK AT MOST 1048576: true; the input reads as it did. -/
def schedErrsUptoRow : OpenClaim := { program := "ytkilpnfgpepfmaa", sum := "7824062fa912e1d8755cd119b11c2c743d9e60a48944e723bc048906f1f2ffde", func := "hatstand/hatstandlaw16.SchedErrs", spec := "schedErrs", unfollowed := true, recurses := true, apart := false, narrowed := true }
def SchedErrsUptoSaid : Prop := schedErrsUptoRow.holds Try.pinned (OpenSpec.upto schedErrsSpec)

end Rows
end Go.Proofs.Ytkilpnfgpepfmaa
