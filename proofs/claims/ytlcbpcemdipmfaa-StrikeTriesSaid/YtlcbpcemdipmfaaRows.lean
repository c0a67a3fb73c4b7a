/-
  No cell of these rows narrows 'for every input' (looked for: loops, veiled, ifaces, maps, wideKeys, modest, calm, conditions, laid).
  DERIVED. THE GIVEN ROWS OF THIS SEAT. 12 by the template 'for every input the law returns true; each argument reads behind the call as it read before'; 0 by the template 'total and deterministic' (their statements: YtlcbpcemdipmfaaTotals.lean).
  GIVEN WITH THE SEED: the statements are not yours to turn. If you find one false, say at which input.
  Laid BY PROGRAM, IN A SANDBOX (cutbox-rows.mjs): the forced cells as the released guide's own fill.sh prints them over the translation e20a5e6a3a300e8c… (all of the seat's roots in one cut). By AI agents, Wed Nov 11 2026. No macro, syntax, notation, axiom, sorry.
-/
import Derived.Test.YtlcbpcemdipmfaaChecked
import GoSem.Claim
import GoSem.ClaimJoined
import GoSem.ClaimMapViews
import Derived.JoinedTies
import Derived.KernelRfl
namespace Go.Proofs.Ytlcbpcemdipmfaa
/- THE CELL 'sum', in the pinned program and in every row, IS THE sha256 OF THE DUMP (.gsa) THAT YtlcbpcemdipmfaaProg.lean LOADS. Nothing in Lean hashes anything: it is a label: what it is worth is what the hold of that sum in a sandbox is worth. -/
noncomputable def Try.pinned : Pinned := { name := "ytlcbpcemdipmfaa", sum := "e20a5e6a3a300e8ce621f13a449843671b754d244d078ec14289ab65ca4426ee", checked := Try.checked }
namespace Rows
def none {H : Type} : Left H := { results := [], args := [] }

/-- 'shibbolethlaw10.WindowMarks': WHATEVER THE INPUT: true; the input reads as it did. -/
def windowMarksSpec : ChangeSpec := { name := "windowMarks", fn := fun _ => fun
  | [d1, d2] => { results := [.lit (.bool true)], args := [d1, d2] }
  | _ => none }
def windowMarksRow : OpenClaim := { program := "ytlcbpcemdipmfaa", sum := "e20a5e6a3a300e8ce621f13a449843671b754d244d078ec14289ab65ca4426ee", func := "shibboleth/shibbolethlaw10.WindowMarks", spec := "windowMarks", apart := false }
def WindowMarksSaid : Prop := windowMarksRow.holds Try.pinned (OpenSpec.ofChange windowMarksSpec)

/-- ITS FALSE NEIGHBOUR: 'it returns false'. Refute it at one input. -/
def windowMarksWrong : ChangeSpec := { name := "windowMarks", fn := fun _ => fun
  | [d1, d2] => { results := [.lit (.bool false)], args := [d1, d2] }
  | _ => none }
def WindowMarksWrongFalsely : Prop := windowMarksRow.holds Try.pinned (OpenSpec.ofChange windowMarksWrong)

/-- 'shibbolethlaw10.WindowOnce': WHATEVER THE INPUT: true; the input reads as it did. -/
def windowOnceSpec : ChangeSpec := { name := "windowOnce", fn := fun _ => fun
  | [d1, d2] => { results := [.lit (.bool true)], args := [d1, d2] }
  | _ => none }
def windowOnceRow : OpenClaim := { program := "ytlcbpcemdipmfaa", sum := "e20a5e6a3a300e8ce621f13a449843671b754d244d078ec14289ab65ca4426ee", func := "shibboleth/shibbolethlaw10.WindowOnce", spec := "windowOnce", apart := false }
def WindowOnceSaid : Prop := windowOnceRow.holds Try.pinned (OpenSpec.ofChange windowOnceSpec)

/-- ITS FALSE NEIGHBOUR: 'it returns false'. Refute it at one input. -/
def windowOnceWrong : ChangeSpec := { name := "windowOnce", fn := fun _ => fun
  | [d1, d2] => { results := [.lit (.bool false)], args := [d1, d2] }
  | _ => none }
def WindowOnceWrongFalsely : Prop := windowOnceRow.holds Try.pinned (OpenSpec.ofChange windowOnceWrong)

/-- 'shibbolethlaw10.WindowOrder': WHATEVER THE INPUT: true; the input reads as it did. -/
def windowOrderSpec : ChangeSpec := { name := "windowOrder", fn := fun _ => fun
  | [d1, d2] => { results := [.lit (.bool true)], args := [d1, d2] }
  | _ => none }
def windowOrderRow : OpenClaim := { program := "ytlcbpcemdipmfaa", sum := "e20a5e6a3a300e8ce621f13a449843671b754d244d078ec14289ab65ca4426ee", func := "shibboleth/shibbolethlaw10.WindowOrder", spec := "windowOrder", apart := false }
def WindowOrderSaid : Prop := windowOrderRow.holds Try.pinned (OpenSpec.ofChange windowOrderSpec)

/-- ITS FALSE NEIGHBOUR: 'it returns false'. Refute it at one input. -/
def windowOrderWrong : ChangeSpec := { name := "windowOrder", fn := fun _ => fun
  | [d1, d2] => { results := [.lit (.bool false)], args := [d1, d2] }
  | _ => none }
def WindowOrderWrongFalsely : Prop := windowOrderRow.holds Try.pinned (OpenSpec.ofChange windowOrderWrong)

/-- 'shibbolethlaw10.WindowOld': WHATEVER THE INPUT: true; the input reads as it did. -/
def windowOldSpec : ChangeSpec := { name := "windowOld", fn := fun _ => fun
  | [d1, d2] => { results := [.lit (.bool true)], args := [d1, d2] }
  | _ => none }
def windowOldRow : OpenClaim := { program := "ytlcbpcemdipmfaa", sum := "e20a5e6a3a300e8ce621f13a449843671b754d244d078ec14289ab65ca4426ee", func := "shibboleth/shibbolethlaw10.WindowOld", spec := "windowOld", apart := false }
def WindowOldSaid : Prop := windowOldRow.holds Try.pinned (OpenSpec.ofChange windowOldSpec)

/-- ITS FALSE NEIGHBOUR: 'it returns false'. Refute it at one input. -/
def windowOldWrong : ChangeSpec := { name := "windowOld", fn := fun _ => fun
  | [d1, d2] => { results := [.lit (.bool false)], args := [d1, d2] }
  | _ => none }
def WindowOldWrongFalsely : Prop := windowOldRow.holds Try.pinned (OpenSpec.ofChange windowOldWrong)

/-- 'shibbolethlaw09.PnumFulls': WHATEVER THE INPUT: true; the input reads as it did. -/
def pnumFullsSpec : ChangeSpec := { name := "pnumFulls", fn := fun _ => fun
  | [d1, d2, d3] => { results := [.lit (.bool true)], args := [d1, d2, d3] }
  | _ => none }
def pnumFullsRow : OpenClaim := { program := "ytlcbpcemdipmfaa", sum := "e20a5e6a3a300e8ce621f13a449843671b754d244d078ec14289ab65ca4426ee", func := "shibboleth/shibbolethlaw09.PnumFulls", spec := "pnumFulls", apart := false }
def PnumFullsSaid : Prop := pnumFullsRow.holds Try.pinned (OpenSpec.ofChange pnumFullsSpec)

/-- ITS FALSE NEIGHBOUR: 'it returns false'. Refute it at one input. -/
def pnumFullsWrong : ChangeSpec := { name := "pnumFulls", fn := fun _ => fun
  | [d1, d2, d3] => { results := [.lit (.bool false)], args := [d1, d2, d3] }
  | _ => none }
def PnumFullsWrongFalsely : Prop := pnumFullsRow.holds Try.pinned (OpenSpec.ofChange pnumFullsWrong)

/-- 'shibbolethlaw09.PnumNear': WHATEVER THE INPUT: true; the input reads as it did. -/
def pnumNearSpec : ChangeSpec := { name := "pnumNear", fn := fun _ => fun
  | [d1, d2, d3] => { results := [.lit (.bool true)], args := [d1, d2, d3] }
  | _ => none }
def pnumNearRow : OpenClaim := { program := "ytlcbpcemdipmfaa", sum := "e20a5e6a3a300e8ce621f13a449843671b754d244d078ec14289ab65ca4426ee", func := "shibboleth/shibbolethlaw09.PnumNear", spec := "pnumNear", apart := false }
def PnumNearSaid : Prop := pnumNearRow.holds Try.pinned (OpenSpec.ofChange pnumNearSpec)

/-- ITS FALSE NEIGHBOUR: 'it returns false'. Refute it at one input. -/
def pnumNearWrong : ChangeSpec := { name := "pnumNear", fn := fun _ => fun
  | [d1, d2, d3] => { results := [.lit (.bool false)], args := [d1, d2, d3] }
  | _ => none }
def PnumNearWrongFalsely : Prop := pnumNearRow.holds Try.pinned (OpenSpec.ofChange pnumNearWrong)

/-- 'shibbolethlaw18.StrikeTries': WHATEVER THE INPUT: true; the input reads as it did. -/
def strikeTriesSpec : ChangeSpec := { name := "strikeTries", fn := fun _ => fun
  | [d1, d2, d3] => { results := [.lit (.bool true)], args := [d1, d2, d3] }
  | _ => none }
def strikeTriesRow : OpenClaim := { program := "ytlcbpcemdipmfaa", sum := "e20a5e6a3a300e8ce621f13a449843671b754d244d078ec14289ab65ca4426ee", func := "shibboleth/shibbolethlaw18.StrikeTries", spec := "strikeTries", apart := false }
def StrikeTriesSaid : Prop := strikeTriesRow.holds Try.pinned (OpenSpec.ofChange strikeTriesSpec)

/-- ITS FALSE NEIGHBOUR: 'it returns false'. Refute it at one input. -/
def strikeTriesWrong : ChangeSpec := { name := "strikeTries", fn := fun _ => fun
  | [d1, d2, d3] => { results := [.lit (.bool false)], args := [d1, d2, d3] }
  | _ => none }
def StrikeTriesWrongFalsely : Prop := strikeTriesRow.holds Try.pinned (OpenSpec.ofChange strikeTriesWrong)

/-- 'shibbolethlaw18.StrikeOnce': WHATEVER THE INPUT: true; the input reads as it did. -/
def strikeOnceSpec : ChangeSpec := { name := "strikeOnce", fn := fun _ => fun
  | [d1, d2, d3] => { results := [.lit (.bool true)], args := [d1, d2, d3] }
  | _ => none }
def strikeOnceRow : OpenClaim := { program := "ytlcbpcemdipmfaa", sum := "e20a5e6a3a300e8ce621f13a449843671b754d244d078ec14289ab65ca4426ee", func := "shibboleth/shibbolethlaw18.StrikeOnce", spec := "strikeOnce", apart := false }
def StrikeOnceSaid : Prop := strikeOnceRow.holds Try.pinned (OpenSpec.ofChange strikeOnceSpec)

/-- ITS FALSE NEIGHBOUR: 'it returns false'. Refute it at one input. -/
def strikeOnceWrong : ChangeSpec := { name := "strikeOnce", fn := fun _ => fun
  | [d1, d2, d3] => { results := [.lit (.bool false)], args := [d1, d2, d3] }
  | _ => none }
def StrikeOnceWrongFalsely : Prop := strikeOnceRow.holds Try.pinned (OpenSpec.ofChange strikeOnceWrong)

/-- 'shibbolethlaw18.StrikeFull': WHATEVER THE INPUT: true; the input reads as it did. -/
def strikeFullSpec : ChangeSpec := { name := "strikeFull", fn := fun _ => fun
  | [d1, d2] => { results := [.lit (.bool true)], args := [d1, d2] }
  | _ => none }
def strikeFullRow : OpenClaim := { program := "ytlcbpcemdipmfaa", sum := "e20a5e6a3a300e8ce621f13a449843671b754d244d078ec14289ab65ca4426ee", func := "shibboleth/shibbolethlaw18.StrikeFull", spec := "strikeFull", apart := false }
def StrikeFullSaid : Prop := strikeFullRow.holds Try.pinned (OpenSpec.ofChange strikeFullSpec)

/-- ITS FALSE NEIGHBOUR: 'it returns false'. Refute it at one input. -/
def strikeFullWrong : ChangeSpec := { name := "strikeFull", fn := fun _ => fun
  | [d1, d2] => { results := [.lit (.bool false)], args := [d1, d2] }
  | _ => none }
def StrikeFullWrongFalsely : Prop := strikeFullRow.holds Try.pinned (OpenSpec.ofChange strikeFullWrong)

/-- 'shibbolethlaw09.PnumWidths': WHATEVER THE INPUT: true; the input reads as it did. -/
def pnumWidthsSpec : ChangeSpec := { name := "pnumWidths", fn := fun _ => fun
  | [d1, d2, d3] => { results := [.lit (.bool true)], args := [d1, d2, d3] }
  | _ => none }
def pnumWidthsRow : OpenClaim := { program := "ytlcbpcemdipmfaa", sum := "e20a5e6a3a300e8ce621f13a449843671b754d244d078ec14289ab65ca4426ee", func := "shibboleth/shibbolethlaw09.PnumWidths", spec := "pnumWidths", apart := false }
def PnumWidthsSaid : Prop := pnumWidthsRow.holds Try.pinned (OpenSpec.ofChange pnumWidthsSpec)

/-- ITS FALSE NEIGHBOUR: 'it returns false'. Refute it at one input. -/
def pnumWidthsWrong : ChangeSpec := { name := "pnumWidths", fn := fun _ => fun
  | [d1, d2, d3] => { results := [.lit (.bool false)], args := [d1, d2, d3] }
  | _ => none }
def PnumWidthsWrongFalsely : Prop := pnumWidthsRow.holds Try.pinned (OpenSpec.ofChange pnumWidthsWrong)

/-- 'shibbolethlaw09.PnumBack': WHATEVER THE INPUT: true; the input reads as it did. -/
def pnumBackSpec : ChangeSpec := { name := "pnumBack", fn := fun _ => fun
  | [d1, d2, d3] => { results := [.lit (.bool true)], args := [d1, d2, d3] }
  | _ => none }
def pnumBackRow : OpenClaim := { program := "ytlcbpcemdipmfaa", sum := "e20a5e6a3a300e8ce621f13a449843671b754d244d078ec14289ab65ca4426ee", func := "shibboleth/shibbolethlaw09.PnumBack", spec := "pnumBack", apart := false }
def PnumBackSaid : Prop := pnumBackRow.holds Try.pinned (OpenSpec.ofChange pnumBackSpec)

/-- ITS FALSE NEIGHBOUR: 'it returns false'. Refute it at one input. -/
def pnumBackWrong : ChangeSpec := { name := "pnumBack", fn := fun _ => fun
  | [d1, d2, d3] => { results := [.lit (.bool false)], args := [d1, d2, d3] }
  | _ => none }
def PnumBackWrongFalsely : Prop := pnumBackRow.holds Try.pinned (OpenSpec.ofChange pnumBackWrong)

/-- 'shibbolethlaw09.PnumRound': WHATEVER THE INPUT: true; the input reads as it did. -/
def pnumRoundSpec : ChangeSpec := { name := "pnumRound", fn := fun _ => fun
  | [d1, d2] => { results := [.lit (.bool true)], args := [d1, d2] }
  | _ => none }
def pnumRoundRow : OpenClaim := { program := "ytlcbpcemdipmfaa", sum := "e20a5e6a3a300e8ce621f13a449843671b754d244d078ec14289ab65ca4426ee", func := "shibboleth/shibbolethlaw09.PnumRound", spec := "pnumRound", apart := false }
def PnumRoundSaid : Prop := pnumRoundRow.holds Try.pinned (OpenSpec.ofChange pnumRoundSpec)

/-- ITS FALSE NEIGHBOUR: 'it returns false'. Refute it at one input. -/
def pnumRoundWrong : ChangeSpec := { name := "pnumRound", fn := fun _ => fun
  | [d1, d2] => { results := [.lit (.bool false)], args := [d1, d2] }
  | _ => none }
def PnumRoundWrongFalsely : Prop := pnumRoundRow.holds Try.pinned (OpenSpec.ofChange pnumRoundWrong)

/- THE SECOND FORM. 'bulk': how many values and letters a reading holds, each counted each time it is reached (what is shared counts as often as it is met; a slice's spare places count too). A statement '..UptoSaid' is the law's where the arguments, and the package variables that the reading takes, are together of bulk at most 1048576: NARROWER than '..Said'. Prove '..Said' where nothing that the law and all that it calls make is longer than what came in: it says more and counts as full. Else prove '..UptoSaid'. A law counts once. -/
mutual
def uptoBulk {H : Type} : DataW H → Nat
  | .lit (.string bytes) => bytes.length + 1
  | .lit _ => 1
  | .nil => 1
  | .ptr d => uptoBulk d + 1
  | .slice elems spare => uptoBulkAll elems + uptoBulkAll spare + 1
  | .agg parts => uptoBulkAll parts + 1
  | .iface _ d => uptoBulk d + 1
  | .map entries => uptoBulkEntries entries + 1
  | .held _ => 1
def uptoBulkAll {H : Type} : List (DataW H) → Nat
  | [] => 0
  | d :: r => uptoBulk d + uptoBulkAll r
def uptoBulkEntries {H : Type} : List (Lit × DataW H) → Nat
  | [] => 0
  | x :: r => uptoBulkEntry x + uptoBulkEntries r
def uptoBulkEntry {H : Type} : Lit × DataW H → Nat
  | (.string bytes, d) => bytes.length + uptoBulk d + 1
  | (_, d) => uptoBulk d + 1
 end
def uptoSmall : (H : Type) → List (DataW H) → Bool := fun _ ds => decide (uptoBulkAll ds ≤ 1048576)
def OpenSpec.upto (s : _root_.Go.ChangeSpec) : _root_.Go.OpenSpec := { _root_.Go.OpenSpec.ofChange s with cond := some uptoSmall }

/-- 'shibbolethlaw10.WindowMarks', WHERE WHAT IT READS IS OF BULK AT MOST 1048576: true; the input reads as it did. -/
def windowMarksUptoRow : OpenClaim := { program := "ytlcbpcemdipmfaa", sum := "e20a5e6a3a300e8ce621f13a449843671b754d244d078ec14289ab65ca4426ee", func := "shibboleth/shibbolethlaw10.WindowMarks", spec := "windowMarks", apart := false, narrowed := true }
def WindowMarksUptoSaid : Prop := windowMarksUptoRow.holds Try.pinned (OpenSpec.upto windowMarksSpec)

/-- 'shibbolethlaw10.WindowOnce', WHERE WHAT IT READS IS OF BULK AT MOST 1048576: true; the input reads as it did. -/
def windowOnceUptoRow : OpenClaim := { program := "ytlcbpcemdipmfaa", sum := "e20a5e6a3a300e8ce621f13a449843671b754d244d078ec14289ab65ca4426ee", func := "shibboleth/shibbolethlaw10.WindowOnce", spec := "windowOnce", apart := false, narrowed := true }
def WindowOnceUptoSaid : Prop := windowOnceUptoRow.holds Try.pinned (OpenSpec.upto windowOnceSpec)

/-- 'shibbolethlaw10.WindowOrder', WHERE WHAT IT READS IS OF BULK AT MOST 1048576: true; the input reads as it did. -/
def windowOrderUptoRow : OpenClaim := { program := "ytlcbpcemdipmfaa", sum := "e20a5e6a3a300e8ce621f13a449843671b754d244d078ec14289ab65ca4426ee", func := "shibboleth/shibbolethlaw10.WindowOrder", spec := "windowOrder", apart := false, narrowed := true }
def WindowOrderUptoSaid : Prop := windowOrderUptoRow.holds Try.pinned (OpenSpec.upto windowOrderSpec)

/-- 'shibbolethlaw10.WindowOld', WHERE WHAT IT READS IS OF BULK AT MOST 1048576: true; the input reads as it did. -/
def windowOldUptoRow : OpenClaim := { program := "ytlcbpcemdipmfaa", sum := "e20a5e6a3a300e8ce621f13a449843671b754d244d078ec14289ab65ca4426ee", func := "shibboleth/shibbolethlaw10.WindowOld", spec := "windowOld", apart := false, narrowed := true }
def WindowOldUptoSaid : Prop := windowOldUptoRow.holds Try.pinned (OpenSpec.upto windowOldSpec)

/-- 'shibbolethlaw09.PnumFulls', WHERE WHAT IT READS IS OF BULK AT MOST 1048576: true; the input reads as it did. -/
def pnumFullsUptoRow : OpenClaim := { program := "ytlcbpcemdipmfaa", sum := "e20a5e6a3a300e8ce621f13a449843671b754d244d078ec14289ab65ca4426ee", func := "shibboleth/shibbolethlaw09.PnumFulls", spec := "pnumFulls", apart := false, narrowed := true }
def PnumFullsUptoSaid : Prop := pnumFullsUptoRow.holds Try.pinned (OpenSpec.upto pnumFullsSpec)

/-- 'shibbolethlaw09.PnumNear', WHERE WHAT IT READS IS OF BULK AT MOST 1048576: true; the input reads as it did. -/
def pnumNearUptoRow : OpenClaim := { program := "ytlcbpcemdipmfaa", sum := "e20a5e6a3a300e8ce621f13a449843671b754d244d078ec14289ab65ca4426ee", func := "shibboleth/shibbolethlaw09.PnumNear", spec := "pnumNear", apart := false, narrowed := true }
def PnumNearUptoSaid : Prop := pnumNearUptoRow.holds Try.pinned (OpenSpec.upto pnumNearSpec)

/-- 'shibbolethlaw18.StrikeTries', WHERE WHAT IT READS IS OF BULK AT MOST 1048576: true; the input reads as it did. -/
def strikeTriesUptoRow : OpenClaim := { program := "ytlcbpcemdipmfaa", sum := "e20a5e6a3a300e8ce621f13a449843671b754d244d078ec14289ab65ca4426ee", func := "shibboleth/shibbolethlaw18.StrikeTries", spec := "strikeTries", apart := false, narrowed := true }
def StrikeTriesUptoSaid : Prop := strikeTriesUptoRow.holds Try.pinned (OpenSpec.upto strikeTriesSpec)

/-- 'shibbolethlaw18.StrikeOnce', WHERE WHAT IT READS IS OF BULK AT MOST 1048576: true; the input reads as it did. -/
def strikeOnceUptoRow : OpenClaim := { program := "ytlcbpcemdipmfaa", sum := "e20a5e6a3a300e8ce621f13a449843671b754d244d078ec14289ab65ca4426ee", func := "shibboleth/shibbolethlaw18.StrikeOnce", spec := "strikeOnce", apart := false, narrowed := true }
def StrikeOnceUptoSaid : Prop := strikeOnceUptoRow.holds Try.pinned (OpenSpec.upto strikeOnceSpec)

/-- 'shibbolethlaw18.StrikeFull', WHERE WHAT IT READS IS OF BULK AT MOST 1048576: true; the input reads as it did. -/
def strikeFullUptoRow : OpenClaim := { program := "ytlcbpcemdipmfaa", sum := "e20a5e6a3a300e8ce621f13a449843671b754d244d078ec14289ab65ca4426ee", func := "shibboleth/shibbolethlaw18.StrikeFull", spec := "strikeFull", apart := false, narrowed := true }
def StrikeFullUptoSaid : Prop := strikeFullUptoRow.holds Try.pinned (OpenSpec.upto strikeFullSpec)

/-- 'shibbolethlaw09.PnumWidths', WHERE WHAT IT READS IS OF BULK AT MOST 1048576: true; the input reads as it did. -/
def pnumWidthsUptoRow : OpenClaim := { program := "ytlcbpcemdipmfaa", sum := "e20a5e6a3a300e8ce621f13a449843671b754d244d078ec14289ab65ca4426ee", func := "shibboleth/shibbolethlaw09.PnumWidths", spec := "pnumWidths", apart := false, narrowed := true }
def PnumWidthsUptoSaid : Prop := pnumWidthsUptoRow.holds Try.pinned (OpenSpec.upto pnumWidthsSpec)

/-- 'shibbolethlaw09.PnumBack', WHERE WHAT IT READS IS OF BULK AT MOST 1048576: true; the input reads as it did. -/
def pnumBackUptoRow : OpenClaim := { program := "ytlcbpcemdipmfaa", sum := "e20a5e6a3a300e8ce621f13a449843671b754d244d078ec14289ab65ca4426ee", func := "shibboleth/shibbolethlaw09.PnumBack", spec := "pnumBack", apart := false, narrowed := true }
def PnumBackUptoSaid : Prop := pnumBackUptoRow.holds Try.pinned (OpenSpec.upto pnumBackSpec)

/-- 'shibbolethlaw09.PnumRound', WHERE WHAT IT READS IS OF BULK AT MOST 1048576: true; the input reads as it did. -/
def pnumRoundUptoRow : OpenClaim := { program := "ytlcbpcemdipmfaa", sum := "e20a5e6a3a300e8ce621f13a449843671b754d244d078ec14289ab65ca4426ee", func := "shibboleth/shibbolethlaw09.PnumRound", spec := "pnumRound", apart := false, narrowed := true }
def PnumRoundUptoSaid : Prop := pnumRoundUptoRow.holds Try.pinned (OpenSpec.upto pnumRoundSpec)

end Rows
end Go.Proofs.Ytlcbpcemdipmfaa
