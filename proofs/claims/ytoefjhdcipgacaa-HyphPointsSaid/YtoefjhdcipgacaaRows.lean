/-
  No cell of these rows narrows 'for every input' (looked for: loops, veiled, ifaces, maps, wideKeys, modest, calm, conditions, laid).
  DERIVED. THE GIVEN ROWS OF THIS SEAT. 13 by the template 'for every input the law returns true; each argument reads behind the call as it read before'; 0 by the template 'total and deterministic' (their statements: YtoefjhdcipgacaaTotals.lean).
  GIVEN WITH THE SEED: the statements are not yours to turn. If you find one false, say at which input.
  Laid BY PROGRAM, IN A SANDBOX (cutbox-rows.mjs): the forced cells as the released guide's own fill.sh prints them over the translation ef134c9fcf78326a… (all of the seat's roots in one cut). By AI agents, Wed Nov 11 2026. No macro, syntax, notation, axiom, sorry.
-/
import Derived.Test.YtoefjhdcipgacaaChecked
import GoSem.Claim
import GoSem.ClaimJoined
import GoSem.ClaimMapViews
import Derived.JoinedTies
import Derived.KernelRfl
namespace Go.Proofs.Ytoefjhdcipgacaa
/- THE CELL 'sum', in the pinned program and in every row, IS THE sha256 OF THE DUMP (.gsa) THAT YtoefjhdcipgacaaProg.lean LOADS. Nothing in Lean hashes anything: it is a label: what it is worth is what the hold of that sum in a sandbox is worth. -/
noncomputable def Try.pinned : Pinned := { name := "ytoefjhdcipgacaa", sum := "ef134c9fcf78326a015a5096a5ecc220f2497cb53a7a6e67f523c69d18b6dd07", checked := Try.checked }
namespace Rows
def none {H : Type} : Left H := { results := [], args := [] }

/-- 'stanzalaw08.TrieValues': WHATEVER THE INPUT: true; the input reads as it did. -/
def trieValuesSpec : ChangeSpec := { name := "trieValues", fn := fun _ => fun
  | [d1, d2, d3] => { results := [.lit (.bool true)], args := [d1, d2, d3] }
  | _ => none }
def trieValuesRow : OpenClaim := { program := "ytoefjhdcipgacaa", sum := "ef134c9fcf78326a015a5096a5ecc220f2497cb53a7a6e67f523c69d18b6dd07", func := "stanza/stanzalaw08.TrieValues", spec := "trieValues", apart := false }
def TrieValuesSaid : Prop := trieValuesRow.holds Try.pinned (OpenSpec.ofChange trieValuesSpec)

/-- ITS FALSE NEIGHBOUR: 'it returns false'. Refute it at one input. -/
def trieValuesWrong : ChangeSpec := { name := "trieValues", fn := fun _ => fun
  | [d1, d2, d3] => { results := [.lit (.bool false)], args := [d1, d2, d3] }
  | _ => none }
def TrieValuesWrongFalsely : Prop := trieValuesRow.holds Try.pinned (OpenSpec.ofChange trieValuesWrong)

/-- 'stanzalaw08.TrieSizes': WHATEVER THE INPUT: true; the input reads as it did. -/
def trieSizesSpec : ChangeSpec := { name := "trieSizes", fn := fun _ => fun
  | [d1, d2, d3] => { results := [.lit (.bool true)], args := [d1, d2, d3] }
  | _ => none }
def trieSizesRow : OpenClaim := { program := "ytoefjhdcipgacaa", sum := "ef134c9fcf78326a015a5096a5ecc220f2497cb53a7a6e67f523c69d18b6dd07", func := "stanza/stanzalaw08.TrieSizes", spec := "trieSizes", apart := false }
def TrieSizesSaid : Prop := trieSizesRow.holds Try.pinned (OpenSpec.ofChange trieSizesSpec)

/-- ITS FALSE NEIGHBOUR: 'it returns false'. Refute it at one input. -/
def trieSizesWrong : ChangeSpec := { name := "trieSizes", fn := fun _ => fun
  | [d1, d2, d3] => { results := [.lit (.bool false)], args := [d1, d2, d3] }
  | _ => none }
def TrieSizesWrongFalsely : Prop := trieSizesRow.holds Try.pinned (OpenSpec.ofChange trieSizesWrong)

/-- 'stanzalaw08.TrieOrder': WHATEVER THE INPUT: true; the input reads as it did. -/
def trieOrderSpec : ChangeSpec := { name := "trieOrder", fn := fun _ => fun
  | [d1, d2, d3] => { results := [.lit (.bool true)], args := [d1, d2, d3] }
  | _ => none }
def trieOrderRow : OpenClaim := { program := "ytoefjhdcipgacaa", sum := "ef134c9fcf78326a015a5096a5ecc220f2497cb53a7a6e67f523c69d18b6dd07", func := "stanza/stanzalaw08.TrieOrder", spec := "trieOrder", apart := false }
def TrieOrderSaid : Prop := trieOrderRow.holds Try.pinned (OpenSpec.ofChange trieOrderSpec)

/-- ITS FALSE NEIGHBOUR: 'it returns false'. Refute it at one input. -/
def trieOrderWrong : ChangeSpec := { name := "trieOrder", fn := fun _ => fun
  | [d1, d2, d3] => { results := [.lit (.bool false)], args := [d1, d2, d3] }
  | _ => none }
def TrieOrderWrongFalsely : Prop := trieOrderRow.holds Try.pinned (OpenSpec.ofChange trieOrderWrong)

/-- 'stanzalaw09.HyphPoints': WHATEVER THE INPUT: true; the input reads as it did. -/
def hyphPointsSpec : ChangeSpec := { name := "hyphPoints", fn := fun _ => fun
  | [d1, d2, d3, d4, d5] => { results := [.lit (.bool true)], args := [d1, d2, d3, d4, d5] }
  | _ => none }
def hyphPointsRow : OpenClaim := { program := "ytoefjhdcipgacaa", sum := "ef134c9fcf78326a015a5096a5ecc220f2497cb53a7a6e67f523c69d18b6dd07", func := "stanza/stanzalaw09.HyphPoints", spec := "hyphPoints", unfollowed := true, recurses := true, apart := false }
def HyphPointsSaid : Prop := hyphPointsRow.holds Try.pinned (OpenSpec.ofChange hyphPointsSpec)

/-- ITS FALSE NEIGHBOUR: 'it returns false'. Refute it at one input. -/
def hyphPointsWrong : ChangeSpec := { name := "hyphPoints", fn := fun _ => fun
  | [d1, d2, d3, d4, d5] => { results := [.lit (.bool false)], args := [d1, d2, d3, d4, d5] }
  | _ => none }
def HyphPointsWrongFalsely : Prop := hyphPointsRow.holds Try.pinned (OpenSpec.ofChange hyphPointsWrong)

/-- 'stanzalaw09.HyphApart': WHATEVER THE INPUT: true; the input reads as it did. -/
def hyphApartSpec : ChangeSpec := { name := "hyphApart", fn := fun _ => fun
  | [d1, d2, d3] => { results := [.lit (.bool true)], args := [d1, d2, d3] }
  | _ => none }
def hyphApartRow : OpenClaim := { program := "ytoefjhdcipgacaa", sum := "ef134c9fcf78326a015a5096a5ecc220f2497cb53a7a6e67f523c69d18b6dd07", func := "stanza/stanzalaw09.HyphApart", spec := "hyphApart", unfollowed := true, recurses := true, apart := false }
def HyphApartSaid : Prop := hyphApartRow.holds Try.pinned (OpenSpec.ofChange hyphApartSpec)

/-- ITS FALSE NEIGHBOUR: 'it returns false'. Refute it at one input. -/
def hyphApartWrong : ChangeSpec := { name := "hyphApart", fn := fun _ => fun
  | [d1, d2, d3] => { results := [.lit (.bool false)], args := [d1, d2, d3] }
  | _ => none }
def HyphApartWrongFalsely : Prop := hyphApartRow.holds Try.pinned (OpenSpec.ofChange hyphApartWrong)

/-- 'stanzalaw08.TrieJoins': WHATEVER THE INPUT: true; the input reads as it did. -/
def trieJoinsSpec : ChangeSpec := { name := "trieJoins", fn := fun _ => fun
  | [d1, d2, d3] => { results := [.lit (.bool true)], args := [d1, d2, d3] }
  | _ => none }
def trieJoinsRow : OpenClaim := { program := "ytoefjhdcipgacaa", sum := "ef134c9fcf78326a015a5096a5ecc220f2497cb53a7a6e67f523c69d18b6dd07", func := "stanza/stanzalaw08.TrieJoins", spec := "trieJoins", apart := false }
def TrieJoinsSaid : Prop := trieJoinsRow.holds Try.pinned (OpenSpec.ofChange trieJoinsSpec)

/-- ITS FALSE NEIGHBOUR: 'it returns false'. Refute it at one input. -/
def trieJoinsWrong : ChangeSpec := { name := "trieJoins", fn := fun _ => fun
  | [d1, d2, d3] => { results := [.lit (.bool false)], args := [d1, d2, d3] }
  | _ => none }
def TrieJoinsWrongFalsely : Prop := trieJoinsRow.holds Try.pinned (OpenSpec.ofChange trieJoinsWrong)

/-- 'stanzalaw08.TrieShifts': WHATEVER THE INPUT: true; the input reads as it did. -/
def trieShiftsSpec : ChangeSpec := { name := "trieShifts", fn := fun _ => fun
  | [d1, d2, d3, d4] => { results := [.lit (.bool true)], args := [d1, d2, d3, d4] }
  | _ => none }
def trieShiftsRow : OpenClaim := { program := "ytoefjhdcipgacaa", sum := "ef134c9fcf78326a015a5096a5ecc220f2497cb53a7a6e67f523c69d18b6dd07", func := "stanza/stanzalaw08.TrieShifts", spec := "trieShifts", apart := false }
def TrieShiftsSaid : Prop := trieShiftsRow.holds Try.pinned (OpenSpec.ofChange trieShiftsSpec)

/-- ITS FALSE NEIGHBOUR: 'it returns false'. Refute it at one input. -/
def trieShiftsWrong : ChangeSpec := { name := "trieShifts", fn := fun _ => fun
  | [d1, d2, d3, d4] => { results := [.lit (.bool false)], args := [d1, d2, d3, d4] }
  | _ => none }
def TrieShiftsWrongFalsely : Prop := trieShiftsRow.holds Try.pinned (OpenSpec.ofChange trieShiftsWrong)

/-- 'stanzalaw08.TrieAlone': WHATEVER THE INPUT: true; the input reads as it did. -/
def trieAloneSpec : ChangeSpec := { name := "trieAlone", fn := fun _ => fun
  | [d1, d2, d3] => { results := [.lit (.bool true)], args := [d1, d2, d3] }
  | _ => none }
def trieAloneRow : OpenClaim := { program := "ytoefjhdcipgacaa", sum := "ef134c9fcf78326a015a5096a5ecc220f2497cb53a7a6e67f523c69d18b6dd07", func := "stanza/stanzalaw08.TrieAlone", spec := "trieAlone", apart := false }
def TrieAloneSaid : Prop := trieAloneRow.holds Try.pinned (OpenSpec.ofChange trieAloneSpec)

/-- ITS FALSE NEIGHBOUR: 'it returns false'. Refute it at one input. -/
def trieAloneWrong : ChangeSpec := { name := "trieAlone", fn := fun _ => fun
  | [d1, d2, d3] => { results := [.lit (.bool false)], args := [d1, d2, d3] }
  | _ => none }
def TrieAloneWrongFalsely : Prop := trieAloneRow.holds Try.pinned (OpenSpec.ofChange trieAloneWrong)

/-- 'stanzalaw09.HyphChecks': WHATEVER THE INPUT: true; the input reads as it did. -/
def hyphChecksSpec : ChangeSpec := { name := "hyphChecks", fn := fun _ => fun
  | [d1, d2, d3, d4] => { results := [.lit (.bool true)], args := [d1, d2, d3, d4] }
  | _ => none }
def hyphChecksRow : OpenClaim := { program := "ytoefjhdcipgacaa", sum := "ef134c9fcf78326a015a5096a5ecc220f2497cb53a7a6e67f523c69d18b6dd07", func := "stanza/stanzalaw09.HyphChecks", spec := "hyphChecks", unfollowed := true, recurses := true, apart := false }
def HyphChecksSaid : Prop := hyphChecksRow.holds Try.pinned (OpenSpec.ofChange hyphChecksSpec)

/-- ITS FALSE NEIGHBOUR: 'it returns false'. Refute it at one input. -/
def hyphChecksWrong : ChangeSpec := { name := "hyphChecks", fn := fun _ => fun
  | [d1, d2, d3, d4] => { results := [.lit (.bool false)], args := [d1, d2, d3, d4] }
  | _ => none }
def HyphChecksWrongFalsely : Prop := hyphChecksRow.holds Try.pinned (OpenSpec.ofChange hyphChecksWrong)

/-- 'stanzalaw09.HyphWords': WHATEVER THE INPUT: true; the input reads as it did. -/
def hyphWordsSpec : ChangeSpec := { name := "hyphWords", fn := fun _ => fun
  | [d1, d2, d3, d4, d5] => { results := [.lit (.bool true)], args := [d1, d2, d3, d4, d5] }
  | _ => none }
def hyphWordsRow : OpenClaim := { program := "ytoefjhdcipgacaa", sum := "ef134c9fcf78326a015a5096a5ecc220f2497cb53a7a6e67f523c69d18b6dd07", func := "stanza/stanzalaw09.HyphWords", spec := "hyphWords", unfollowed := true, recurses := true, apart := false }
def HyphWordsSaid : Prop := hyphWordsRow.holds Try.pinned (OpenSpec.ofChange hyphWordsSpec)

/-- ITS FALSE NEIGHBOUR: 'it returns false'. Refute it at one input. -/
def hyphWordsWrong : ChangeSpec := { name := "hyphWords", fn := fun _ => fun
  | [d1, d2, d3, d4, d5] => { results := [.lit (.bool false)], args := [d1, d2, d3, d4, d5] }
  | _ => none }
def HyphWordsWrongFalsely : Prop := hyphWordsRow.holds Try.pinned (OpenSpec.ofChange hyphWordsWrong)

/-- 'stanzalaw09.HyphLeast': WHATEVER THE INPUT: true; the input reads as it did. -/
def hyphLeastSpec : ChangeSpec := { name := "hyphLeast", fn := fun _ => fun
  | [d1, d2, d3, d4] => { results := [.lit (.bool true)], args := [d1, d2, d3, d4] }
  | _ => none }
def hyphLeastRow : OpenClaim := { program := "ytoefjhdcipgacaa", sum := "ef134c9fcf78326a015a5096a5ecc220f2497cb53a7a6e67f523c69d18b6dd07", func := "stanza/stanzalaw09.HyphLeast", spec := "hyphLeast", unfollowed := true, recurses := true, apart := false }
def HyphLeastSaid : Prop := hyphLeastRow.holds Try.pinned (OpenSpec.ofChange hyphLeastSpec)

/-- ITS FALSE NEIGHBOUR: 'it returns false'. Refute it at one input. -/
def hyphLeastWrong : ChangeSpec := { name := "hyphLeast", fn := fun _ => fun
  | [d1, d2, d3, d4] => { results := [.lit (.bool false)], args := [d1, d2, d3, d4] }
  | _ => none }
def HyphLeastWrongFalsely : Prop := hyphLeastRow.holds Try.pinned (OpenSpec.ofChange hyphLeastWrong)

/-- 'stanzalaw09.HyphTold': WHATEVER THE INPUT: true; the input reads as it did. -/
def hyphToldSpec : ChangeSpec := { name := "hyphTold", fn := fun _ => fun
  | [d1, d2, d3, d4, d5, d6] => { results := [.lit (.bool true)], args := [d1, d2, d3, d4, d5, d6] }
  | _ => none }
def hyphToldRow : OpenClaim := { program := "ytoefjhdcipgacaa", sum := "ef134c9fcf78326a015a5096a5ecc220f2497cb53a7a6e67f523c69d18b6dd07", func := "stanza/stanzalaw09.HyphTold", spec := "hyphTold", unfollowed := true, recurses := true, apart := false }
def HyphToldSaid : Prop := hyphToldRow.holds Try.pinned (OpenSpec.ofChange hyphToldSpec)

/-- ITS FALSE NEIGHBOUR: 'it returns false'. Refute it at one input. -/
def hyphToldWrong : ChangeSpec := { name := "hyphTold", fn := fun _ => fun
  | [d1, d2, d3, d4, d5, d6] => { results := [.lit (.bool false)], args := [d1, d2, d3, d4, d5, d6] }
  | _ => none }
def HyphToldWrongFalsely : Prop := hyphToldRow.holds Try.pinned (OpenSpec.ofChange hyphToldWrong)

/-- 'stanzalaw09.HyphLetters': WHATEVER THE INPUT: true; the input reads as it did. -/
def hyphLettersSpec : ChangeSpec := { name := "hyphLetters", fn := fun _ => fun
  | [d1, d2] => { results := [.lit (.bool true)], args := [d1, d2] }
  | _ => none }
def hyphLettersRow : OpenClaim := { program := "ytoefjhdcipgacaa", sum := "ef134c9fcf78326a015a5096a5ecc220f2497cb53a7a6e67f523c69d18b6dd07", func := "stanza/stanzalaw09.HyphLetters", spec := "hyphLetters", unfollowed := true, recurses := true, apart := false }
def HyphLettersSaid : Prop := hyphLettersRow.holds Try.pinned (OpenSpec.ofChange hyphLettersSpec)

/-- ITS FALSE NEIGHBOUR: 'it returns false'. Refute it at one input. -/
def hyphLettersWrong : ChangeSpec := { name := "hyphLetters", fn := fun _ => fun
  | [d1, d2] => { results := [.lit (.bool false)], args := [d1, d2] }
  | _ => none }
def HyphLettersWrongFalsely : Prop := hyphLettersRow.holds Try.pinned (OpenSpec.ofChange hyphLettersWrong)

/- THE SECOND FORM. 'bulk': how many values and letters a reading holds, each counted each time it is reached (what is shared counts as often as it is met; a slice's spare places count too). A statement '..UptoSaid' is the law's where the arguments, and the package variables that the reading takes, are together of bulk at most 1048576: NARROWER than '..Said'. Prove '..Said' where nothing that the law and all that it calls make is longer than what came in: it says more and counts as full. Else prove '..UptoSaid'. A law counts once. -/
mutual
def uptoBulk {H : Type} : DataW H → Nat
  | .lit (.string bytes) => bytes.length + 1
  | .lit _ => 1
  | .nil => 1
  | .ptr d => uptoBulk d + 1
  | .slice elems spare => uptoBulkAll elems + uptoBulkAll spare + 1
  | .agg parts => uptoBulkAll parts + 1
  | .iface _ d => uptoBulk d + 1
  | .map entries => uptoBulkEntries entries + 1
  | .held _ => 1
def uptoBulkAll {H : Type} : List (DataW H) → Nat
  | [] => 0
  | d :: r => uptoBulk d + uptoBulkAll r
def uptoBulkEntries {H : Type} : List (Lit × DataW H) → Nat
  | [] => 0
  | x :: r => uptoBulkEntry x + uptoBulkEntries r
def uptoBulkEntry {H : Type} : Lit × DataW H → Nat
  | (.string bytes, d) => bytes.length + uptoBulk d + 1
  | (_, d) => uptoBulk d + 1
 end
def uptoSmall : (H : Type) → List (DataW H) → Bool := fun _ ds => decide (uptoBulkAll ds ≤ 1048576)
def OpenSpec.upto (s : _root_.Go.ChangeSpec) : _root_.Go.OpenSpec := { _root_.Go.OpenSpec.ofChange s with cond := some uptoSmall }

/-- 'stanzalaw08.TrieValues', WHERE WHAT IT READS IS OF BULK AT MOST 1048576: true; the input reads as it did. -/
def trieValuesUptoRow : OpenClaim := { program := "ytoefjhdcipgacaa", sum := "ef134c9fcf78326a015a5096a5ecc220f2497cb53a7a6e67f523c69d18b6dd07", func := "stanza/stanzalaw08.TrieValues", spec := "trieValues", apart := false, narrowed := true }
def TrieValuesUptoSaid : Prop := trieValuesUptoRow.holds Try.pinned (OpenSpec.upto trieValuesSpec)

/-- 'stanzalaw08.TrieSizes', WHERE WHAT IT READS IS OF BULK AT MOST 1048576: true; the input reads as it did. -/
def trieSizesUptoRow : OpenClaim := { program := "ytoefjhdcipgacaa", sum := "ef134c9fcf78326a015a5096a5ecc220f2497cb53a7a6e67f523c69d18b6dd07", func := "stanza/stanzalaw08.TrieSizes", spec := "trieSizes", apart := false, narrowed := true }
def TrieSizesUptoSaid : Prop := trieSizesUptoRow.holds Try.pinned (OpenSpec.upto trieSizesSpec)

/-- 'stanzalaw08.TrieOrder', WHERE WHAT IT READS IS OF BULK AT MOST 1048576: true; the input reads as it did. -/
def trieOrderUptoRow : OpenClaim := { program := "ytoefjhdcipgacaa", sum := "ef134c9fcf78326a015a5096a5ecc220f2497cb53a7a6e67f523c69d18b6dd07", func := "stanza/stanzalaw08.TrieOrder", spec := "trieOrder", apart := false, narrowed := true }
def TrieOrderUptoSaid : Prop := trieOrderUptoRow.holds Try.pinned (OpenSpec.upto trieOrderSpec)

/-- 'stanzalaw09.HyphPoints', WHERE WHAT IT READS IS OF BULK AT MOST 1048576: true; the input reads as it did. -/
def hyphPointsUptoRow : OpenClaim := { program := "ytoefjhdcipgacaa", sum := "ef134c9fcf78326a015a5096a5ecc220f2497cb53a7a6e67f523c69d18b6dd07", func := "stanza/stanzalaw09.HyphPoints", spec := "hyphPoints", unfollowed := true, recurses := true, apart := false, narrowed := true }
def HyphPointsUptoSaid : Prop := hyphPointsUptoRow.holds Try.pinned (OpenSpec.upto hyphPointsSpec)

/-- 'stanzalaw09.HyphApart', WHERE WHAT IT READS IS OF BULK AT MOST 1048576: true; the input reads as it did. -/
def hyphApartUptoRow : OpenClaim := { program := "ytoefjhdcipgacaa", sum := "ef134c9fcf78326a015a5096a5ecc220f2497cb53a7a6e67f523c69d18b6dd07", func := "stanza/stanzalaw09.HyphApart", spec := "hyphApart", unfollowed := true, recurses := true, apart := false, narrowed := true }
def HyphApartUptoSaid : Prop := hyphApartUptoRow.holds Try.pinned (OpenSpec.upto hyphApartSpec)

/-- 'stanzalaw08.TrieJoins', WHERE WHAT IT READS IS OF BULK AT MOST 1048576: true; the input reads as it did. -/
def trieJoinsUptoRow : OpenClaim := { program := "ytoefjhdcipgacaa", sum := "ef134c9fcf78326a015a5096a5ecc220f2497cb53a7a6e67f523c69d18b6dd07", func := "stanza/stanzalaw08.TrieJoins", spec := "trieJoins", apart := false, narrowed := true }
def TrieJoinsUptoSaid : Prop := trieJoinsUptoRow.holds Try.pinned (OpenSpec.upto trieJoinsSpec)

/-- 'stanzalaw08.TrieShifts', WHERE WHAT IT READS IS OF BULK AT MOST 1048576: true; the input reads as it did. -/
def trieShiftsUptoRow : OpenClaim := { program := "ytoefjhdcipgacaa", sum := "ef134c9fcf78326a015a5096a5ecc220f2497cb53a7a6e67f523c69d18b6dd07", func := "stanza/stanzalaw08.TrieShifts", spec := "trieShifts", apart := false, narrowed := true }
def TrieShiftsUptoSaid : Prop := trieShiftsUptoRow.holds Try.pinned (OpenSpec.upto trieShiftsSpec)

/-- 'stanzalaw08.TrieAlone', WHERE WHAT IT READS IS OF BULK AT MOST 1048576: true; the input reads as it did. -/
def trieAloneUptoRow : OpenClaim := { program := "ytoefjhdcipgacaa", sum := "ef134c9fcf78326a015a5096a5ecc220f2497cb53a7a6e67f523c69d18b6dd07", func := "stanza/stanzalaw08.TrieAlone", spec := "trieAlone", apart := false, narrowed := true }
def TrieAloneUptoSaid : Prop := trieAloneUptoRow.holds Try.pinned (OpenSpec.upto trieAloneSpec)

/-- 'stanzalaw09.HyphChecks', WHERE WHAT IT READS IS OF BULK AT MOST 1048576: true; the input reads as it did. -/
def hyphChecksUptoRow : OpenClaim := { program := "ytoefjhdcipgacaa", sum := "ef134c9fcf78326a015a5096a5ecc220f2497cb53a7a6e67f523c69d18b6dd07", func := "stanza/stanzalaw09.HyphChecks", spec := "hyphChecks", unfollowed := true, recurses := true, apart := false, narrowed := true }
def HyphChecksUptoSaid : Prop := hyphChecksUptoRow.holds Try.pinned (OpenSpec.upto hyphChecksSpec)

/-- 'stanzalaw09.HyphWords', WHERE WHAT IT READS IS OF BULK AT MOST 1048576: true; the input reads as it did. -/
def hyphWordsUptoRow : OpenClaim := { program := "ytoefjhdcipgacaa", sum := "ef134c9fcf78326a015a5096a5ecc220f2497cb53a7a6e67f523c69d18b6dd07", func := "stanza/stanzalaw09.HyphWords", spec := "hyphWords", unfollowed := true, recurses := true, apart := false, narrowed := true }
def HyphWordsUptoSaid : Prop := hyphWordsUptoRow.holds Try.pinned (OpenSpec.upto hyphWordsSpec)

/-- 'stanzalaw09.HyphLeast', WHERE WHAT IT READS IS OF BULK AT MOST 1048576: true; the input reads as it did. -/
def hyphLeastUptoRow : OpenClaim := { program := "ytoefjhdcipgacaa", sum := "ef134c9fcf78326a015a5096a5ecc220f2497cb53a7a6e67f523c69d18b6dd07", func := "stanza/stanzalaw09.HyphLeast", spec := "hyphLeast", unfollowed := true, recurses := true, apart := false, narrowed := true }
def HyphLeastUptoSaid : Prop := hyphLeastUptoRow.holds Try.pinned (OpenSpec.upto hyphLeastSpec)

/-- 'stanzalaw09.HyphTold', WHERE WHAT IT READS IS OF BULK AT MOST 1048576: true; the input reads as it did. -/
def hyphToldUptoRow : OpenClaim := { program := "ytoefjhdcipgacaa", sum := "ef134c9fcf78326a015a5096a5ecc220f2497cb53a7a6e67f523c69d18b6dd07", func := "stanza/stanzalaw09.HyphTold", spec := "hyphTold", unfollowed := true, recurses := true, apart := false, narrowed := true }
def HyphToldUptoSaid : Prop := hyphToldUptoRow.holds Try.pinned (OpenSpec.upto hyphToldSpec)

/-- 'stanzalaw09.HyphLetters', WHERE WHAT IT READS IS OF BULK AT MOST 1048576: true; the input reads as it did. -/
def hyphLettersUptoRow : OpenClaim := { program := "ytoefjhdcipgacaa", sum := "ef134c9fcf78326a015a5096a5ecc220f2497cb53a7a6e67f523c69d18b6dd07", func := "stanza/stanzalaw09.HyphLetters", spec := "hyphLetters", unfollowed := true, recurses := true, apart := false, narrowed := true }
def HyphLettersUptoSaid : Prop := hyphLettersUptoRow.holds Try.pinned (OpenSpec.upto hyphLettersSpec)

end Rows
end Go.Proofs.Ytoefjhdcipgacaa
