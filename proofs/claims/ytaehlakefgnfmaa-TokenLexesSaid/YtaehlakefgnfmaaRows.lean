/-
  No cell of these rows narrows 'for every input' (looked for: loops, veiled, ifaces, maps, wideKeys, modest, calm, conditions, laid).
  DERIVED. THE GIVEN ROWS OF THIS SEAT. 6 by the template 'for every input the law returns true; each argument reads behind the call as it read before'; 0 by the template 'total and deterministic' (their statements: YtaehlakefgnfmaaTotals.lean).
  GIVEN WITH THE SEED: the statements are not yours to turn. If you find one false, say at which input.
  Laid BY PROGRAM, IN A SANDBOX (cutbox-rows.mjs): the forced cells as the released guide's own fill.sh prints them over the translation a2b4409bfa871145… (all of the seat's roots in one cut). By AI agents, Wed Nov 11 2026. No macro, syntax, notation, axiom, sorry.
-/
import Derived.Test.YtaehlakefgnfmaaChecked
import GoSem.Claim
import GoSem.ClaimJoined
import GoSem.ClaimMapViews
import Derived.JoinedTies
import Derived.KernelRfl
namespace Go.Proofs.Ytaehlakefgnfmaa
/- THE CELL 'sum', in the pinned program and in every row, IS THE sha256 OF THE DUMP (.gsa) THAT YtaehlakefgnfmaaProg.lean LOADS. Nothing in Lean hashes anything: it is a label: what it is worth is what the hold of that sum in a sandbox is worth. -/
noncomputable def Try.pinned : Pinned := { name := "ytaehlakefgnfmaa", sum := "a2b4409bfa871145df10442a968fe25d7ab4fe5c458de66e3865eb2e161be08b", checked := Try.checked }
namespace Rows
def none {H : Type} : Left H := { results := [], args := [] }

/-- 'covenantlaw03.TokenLexes': WHATEVER THE INPUT: true; the input reads as it did. -/
def tokenLexesSpec : ChangeSpec := { name := "tokenLexes", fn := fun _ => fun
  | [d1, d2] => { results := [.lit (.bool true)], args := [d1, d2] }
  | _ => none }
def tokenLexesRow : OpenClaim := { program := "ytaehlakefgnfmaa", sum := "a2b4409bfa871145df10442a968fe25d7ab4fe5c458de66e3865eb2e161be08b", func := "covenant/covenantlaw03.TokenLexes", spec := "tokenLexes", inPlace := ["internal/bytealg.IndexByteString"], unfollowed := true, recurses := true, apart := false }
def TokenLexesSaid : Prop := tokenLexesRow.holds Try.pinned (OpenSpec.ofChange tokenLexesSpec)

/-- ITS FALSE NEIGHBOUR: 'it returns false'. Refute it at one input. -/
def tokenLexesWrong : ChangeSpec := { name := "tokenLexes", fn := fun _ => fun
  | [d1, d2] => { results := [.lit (.bool false)], args := [d1, d2] }
  | _ => none }
def TokenLexesWrongFalsely : Prop := tokenLexesRow.holds Try.pinned (OpenSpec.ofChange tokenLexesWrong)

/-- 'covenantlaw03.TokenPlaces': WHATEVER THE INPUT: true; the input reads as it did. -/
def tokenPlacesSpec : ChangeSpec := { name := "tokenPlaces", fn := fun _ => fun
  | [d] => { results := [.lit (.bool true)], args := [d] }
  | _ => none }
def tokenPlacesRow : OpenClaim := { program := "ytaehlakefgnfmaa", sum := "a2b4409bfa871145df10442a968fe25d7ab4fe5c458de66e3865eb2e161be08b", func := "covenant/covenantlaw03.TokenPlaces", spec := "tokenPlaces", inPlace := ["internal/bytealg.IndexByteString"], unfollowed := true, recurses := true, apart := false }
def TokenPlacesSaid : Prop := tokenPlacesRow.holds Try.pinned (OpenSpec.ofChange tokenPlacesSpec)

/-- ITS FALSE NEIGHBOUR: 'it returns false'. Refute it at one input. -/
def tokenPlacesWrong : ChangeSpec := { name := "tokenPlaces", fn := fun _ => fun
  | [d] => { results := [.lit (.bool false)], args := [d] }
  | _ => none }
def TokenPlacesWrongFalsely : Prop := tokenPlacesRow.holds Try.pinned (OpenSpec.ofChange tokenPlacesWrong)

/-- 'covenantlaw03.TokenBlanks': WHATEVER THE INPUT: true; the input reads as it did. -/
def tokenBlanksSpec : ChangeSpec := { name := "tokenBlanks", fn := fun _ => fun
  | [d1, d2, d3] => { results := [.lit (.bool true)], args := [d1, d2, d3] }
  | _ => none }
def tokenBlanksRow : OpenClaim := { program := "ytaehlakefgnfmaa", sum := "a2b4409bfa871145df10442a968fe25d7ab4fe5c458de66e3865eb2e161be08b", func := "covenant/covenantlaw03.TokenBlanks", spec := "tokenBlanks", inPlace := ["internal/bytealg.IndexByteString"], unfollowed := true, recurses := true, apart := false }
def TokenBlanksSaid : Prop := tokenBlanksRow.holds Try.pinned (OpenSpec.ofChange tokenBlanksSpec)

/-- ITS FALSE NEIGHBOUR: 'it returns false'. Refute it at one input. -/
def tokenBlanksWrong : ChangeSpec := { name := "tokenBlanks", fn := fun _ => fun
  | [d1, d2, d3] => { results := [.lit (.bool false)], args := [d1, d2, d3] }
  | _ => none }
def TokenBlanksWrongFalsely : Prop := tokenBlanksRow.holds Try.pinned (OpenSpec.ofChange tokenBlanksWrong)

/-- 'covenantlaw03.TokenNumbers': WHATEVER THE INPUT: true; the input reads as it did. -/
def tokenNumbersSpec : ChangeSpec := { name := "tokenNumbers", fn := fun _ => fun
  | [d1, d2] => { results := [.lit (.bool true)], args := [d1, d2] }
  | _ => none }
def tokenNumbersRow : OpenClaim := { program := "ytaehlakefgnfmaa", sum := "a2b4409bfa871145df10442a968fe25d7ab4fe5c458de66e3865eb2e161be08b", func := "covenant/covenantlaw03.TokenNumbers", spec := "tokenNumbers", inPlace := ["internal/bytealg.IndexByteString"], unfollowed := true, recurses := true, apart := false }
def TokenNumbersSaid : Prop := tokenNumbersRow.holds Try.pinned (OpenSpec.ofChange tokenNumbersSpec)

/-- ITS FALSE NEIGHBOUR: 'it returns false'. Refute it at one input. -/
def tokenNumbersWrong : ChangeSpec := { name := "tokenNumbers", fn := fun _ => fun
  | [d1, d2] => { results := [.lit (.bool false)], args := [d1, d2] }
  | _ => none }
def TokenNumbersWrongFalsely : Prop := tokenNumbersRow.holds Try.pinned (OpenSpec.ofChange tokenNumbersWrong)

/-- 'covenantlaw03.TokenWords': WHATEVER THE INPUT: true; the input reads as it did. -/
def tokenWordsSpec : ChangeSpec := { name := "tokenWords", fn := fun _ => fun
  | [d] => { results := [.lit (.bool true)], args := [d] }
  | _ => none }
def tokenWordsRow : OpenClaim := { program := "ytaehlakefgnfmaa", sum := "a2b4409bfa871145df10442a968fe25d7ab4fe5c458de66e3865eb2e161be08b", func := "covenant/covenantlaw03.TokenWords", spec := "tokenWords", inPlace := ["internal/bytealg.IndexByteString"], unfollowed := true, recurses := true, apart := false }
def TokenWordsSaid : Prop := tokenWordsRow.holds Try.pinned (OpenSpec.ofChange tokenWordsSpec)

/-- ITS FALSE NEIGHBOUR: 'it returns false'. Refute it at one input. -/
def tokenWordsWrong : ChangeSpec := { name := "tokenWords", fn := fun _ => fun
  | [d] => { results := [.lit (.bool false)], args := [d] }
  | _ => none }
def TokenWordsWrongFalsely : Prop := tokenWordsRow.holds Try.pinned (OpenSpec.ofChange tokenWordsWrong)

/-- 'covenantlaw03.TokenTexts': WHATEVER THE INPUT: true; the input reads as it did. -/
def tokenTextsSpec : ChangeSpec := { name := "tokenTexts", fn := fun _ => fun
  | [d1, d2] => { results := [.lit (.bool true)], args := [d1, d2] }
  | _ => none }
def tokenTextsRow : OpenClaim := { program := "ytaehlakefgnfmaa", sum := "a2b4409bfa871145df10442a968fe25d7ab4fe5c458de66e3865eb2e161be08b", func := "covenant/covenantlaw03.TokenTexts", spec := "tokenTexts", inPlace := ["internal/bytealg.IndexByteString"], unfollowed := true, recurses := true, apart := false }
def TokenTextsSaid : Prop := tokenTextsRow.holds Try.pinned (OpenSpec.ofChange tokenTextsSpec)

/-- ITS FALSE NEIGHBOUR: 'it returns false'. Refute it at one input. -/
def tokenTextsWrong : ChangeSpec := { name := "tokenTexts", fn := fun _ => fun
  | [d1, d2] => { results := [.lit (.bool false)], args := [d1, d2] }
  | _ => none }
def TokenTextsWrongFalsely : Prop := tokenTextsRow.holds Try.pinned (OpenSpec.ofChange tokenTextsWrong)

/- THE SECOND FORM. 'bulk': how many values and letters a reading holds, each counted each time it is reached (what is shared counts as often as it is met; a slice's spare places count too). A statement '..UptoSaid' is the law's where the arguments, and the package variables that the reading takes, are together of bulk at most 1048576: NARROWER than '..Said'. Prove '..Said' where nothing that the law and all that it calls make is longer than what came in: it says more and counts as full. Else prove '..UptoSaid'. A law counts once. -/
mutual
def uptoBulk {H : Type} : DataW H → Nat
  | .lit (.string bytes) => bytes.length + 1
  | .lit _ => 1
  | .nil => 1
  | .ptr d => uptoBulk d + 1
  | .slice elems spare => uptoBulkAll elems + uptoBulkAll spare + 1
  | .agg parts => uptoBulkAll parts + 1
  | .iface _ d => uptoBulk d + 1
  | .map entries => uptoBulkEntries entries + 1
  | .held _ => 1
def uptoBulkAll {H : Type} : List (DataW H) → Nat
  | [] => 0
  | d :: r => uptoBulk d + uptoBulkAll r
def uptoBulkEntries {H : Type} : List (Lit × DataW H) → Nat
  | [] => 0
  | x :: r => uptoBulkEntry x + uptoBulkEntries r
def uptoBulkEntry {H : Type} : Lit × DataW H → Nat
  | (.string bytes, d) => bytes.length + uptoBulk d + 1
  | (_, d) => uptoBulk d + 1
 end
def uptoSmall : (H : Type) → List (DataW H) → Bool := fun _ ds => decide (uptoBulkAll ds ≤ 1048576)
def OpenSpec.upto (s : _root_.Go.ChangeSpec) : _root_.Go.OpenSpec := { _root_.Go.OpenSpec.ofChange s with cond := some uptoSmall }

/-- 'covenantlaw03.TokenLexes', WHERE WHAT IT READS IS OF BULK AT MOST 1048576: true; the input reads as it did. -/
def tokenLexesUptoRow : OpenClaim := { program := "ytaehlakefgnfmaa", sum := "a2b4409bfa871145df10442a968fe25d7ab4fe5c458de66e3865eb2e161be08b", func := "covenant/covenantlaw03.TokenLexes", spec := "tokenLexes", inPlace := ["internal/bytealg.IndexByteString"], unfollowed := true, recurses := true, apart := false, narrowed := true }
def TokenLexesUptoSaid : Prop := tokenLexesUptoRow.holds Try.pinned (OpenSpec.upto tokenLexesSpec)

/-- 'covenantlaw03.TokenPlaces', WHERE WHAT IT READS IS OF BULK AT MOST 1048576: true; the input reads as it did. -/
def tokenPlacesUptoRow : OpenClaim := { program := "ytaehlakefgnfmaa", sum := "a2b4409bfa871145df10442a968fe25d7ab4fe5c458de66e3865eb2e161be08b", func := "covenant/covenantlaw03.TokenPlaces", spec := "tokenPlaces", inPlace := ["internal/bytealg.IndexByteString"], unfollowed := true, recurses := true, apart := false, narrowed := true }
def TokenPlacesUptoSaid : Prop := tokenPlacesUptoRow.holds Try.pinned (OpenSpec.upto tokenPlacesSpec)

/-- 'covenantlaw03.TokenBlanks', WHERE WHAT IT READS IS OF BULK AT MOST 1048576: true; the input reads as it did. -/
def tokenBlanksUptoRow : OpenClaim := { program := "ytaehlakefgnfmaa", sum := "a2b4409bfa871145df10442a968fe25d7ab4fe5c458de66e3865eb2e161be08b", func := "covenant/covenantlaw03.TokenBlanks", spec := "tokenBlanks", inPlace := ["internal/bytealg.IndexByteString"], unfollowed := true, recurses := true, apart := false, narrowed := true }
def TokenBlanksUptoSaid : Prop := tokenBlanksUptoRow.holds Try.pinned (OpenSpec.upto tokenBlanksSpec)

/-- 'covenantlaw03.TokenNumbers', WHERE WHAT IT READS IS OF BULK AT MOST 1048576: true; the input reads as it did. -/
def tokenNumbersUptoRow : OpenClaim := { program := "ytaehlakefgnfmaa", sum := "a2b4409bfa871145df10442a968fe25d7ab4fe5c458de66e3865eb2e161be08b", func := "covenant/covenantlaw03.TokenNumbers", spec := "tokenNumbers", inPlace := ["internal/bytealg.IndexByteString"], unfollowed := true, recurses := true, apart := false, narrowed := true }
def TokenNumbersUptoSaid : Prop := tokenNumbersUptoRow.holds Try.pinned (OpenSpec.upto tokenNumbersSpec)

/-- 'covenantlaw03.TokenWords', WHERE WHAT IT READS IS OF BULK AT MOST 1048576: true; the input reads as it did. -/
def tokenWordsUptoRow : OpenClaim := { program := "ytaehlakefgnfmaa", sum := "a2b4409bfa871145df10442a968fe25d7ab4fe5c458de66e3865eb2e161be08b", func := "covenant/covenantlaw03.TokenWords", spec := "tokenWords", inPlace := ["internal/bytealg.IndexByteString"], unfollowed := true, recurses := true, apart := false, narrowed := true }
def TokenWordsUptoSaid : Prop := tokenWordsUptoRow.holds Try.pinned (OpenSpec.upto tokenWordsSpec)

/-- 'covenantlaw03.TokenTexts', WHERE WHAT IT READS IS OF BULK AT MOST 1048576: true; the input reads as it did. -/
def tokenTextsUptoRow : OpenClaim := { program := "ytaehlakefgnfmaa", sum := "a2b4409bfa871145df10442a968fe25d7ab4fe5c458de66e3865eb2e161be08b", func := "covenant/covenantlaw03.TokenTexts", spec := "tokenTexts", inPlace := ["internal/bytealg.IndexByteString"], unfollowed := true, recurses := true, apart := false, narrowed := true }
def TokenTextsUptoSaid : Prop := tokenTextsUptoRow.holds Try.pinned (OpenSpec.upto tokenTextsSpec)

end Rows
end Go.Proofs.Ytaehlakefgnfmaa
