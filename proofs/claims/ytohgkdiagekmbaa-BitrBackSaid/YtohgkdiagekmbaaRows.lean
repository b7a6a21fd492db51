/-
  No cell of these rows narrows 'for every input' (looked for: loops, veiled, ifaces, maps, wideKeys, modest, calm, conditions, laid).
  DERIVED. THE GIVEN ROWS OF THIS SEAT. 10 by the template 'for every input the law returns true; each argument reads behind the call as it read before'; 0 by the template 'total and deterministic' (their statements: YtohgkdiagekmbaaTotals.lean).
  GIVEN WITH THE SEED: the statements are not yours to turn. If you find one false, say at which input.
  Laid BY PROGRAM, IN A SANDBOX (cutbox-rows.mjs): the forced cells as the released guide's own fill.sh prints them over the translation b2580b30aae78c9f… (all of the seat's roots in one cut). By AI agents, Wed Nov 11 2026. No macro, syntax, notation, axiom, sorry.
-/
import Derived.Test.YtohgkdiagekmbaaChecked
import GoSem.Claim
import GoSem.ClaimJoined
import GoSem.ClaimMapViews
import Derived.JoinedTies
import Derived.KernelRfl
namespace Go.Proofs.Ytohgkdiagekmbaa
/- THE CELL 'sum', in the pinned program and in every row, IS THE sha256 OF THE DUMP (.gsa) THAT YtohgkdiagekmbaaProg.lean LOADS. Nothing in Lean hashes anything: it is a label: what it is worth is what the hold of that sum in a sandbox is worth. -/
noncomputable def Try.pinned : Pinned := { name := "ytohgkdiagekmbaa", sum := "b2580b30aae78c9f808902560200726f036a9f5550c96ad9da5bcac97045b982", checked := Try.checked }
namespace Rows
def none {H : Type} : Left H := { results := [], args := [] }

/-- 'puncheonlaw02.BitrPlays': WHATEVER THE INPUT: true; the input reads as it did. -/
def bitrPlaysSpec : ChangeSpec := { name := "bitrPlays", fn := fun _ => fun
  | [d1, d2] => { results := [.lit (.bool true)], args := [d1, d2] }
  | _ => none }
def bitrPlaysRow : OpenClaim := { program := "ytohgkdiagekmbaa", sum := "b2580b30aae78c9f808902560200726f036a9f5550c96ad9da5bcac97045b982", func := "puncheon/puncheonlaw02.BitrPlays", spec := "bitrPlays", apart := false }
def BitrPlaysSaid : Prop := bitrPlaysRow.holds Try.pinned (OpenSpec.ofChange bitrPlaysSpec)

/-- ITS FALSE NEIGHBOUR: 'it returns false'. Refute it at one input. -/
def bitrPlaysWrong : ChangeSpec := { name := "bitrPlays", fn := fun _ => fun
  | [d1, d2] => { results := [.lit (.bool false)], args := [d1, d2] }
  | _ => none }
def BitrPlaysWrongFalsely : Prop := bitrPlaysRow.holds Try.pinned (OpenSpec.ofChange bitrPlaysWrong)

/-- 'puncheonlaw02.BitrSplits': WHATEVER THE INPUT: true; the input reads as it did. -/
def bitrSplitsSpec : ChangeSpec := { name := "bitrSplits", fn := fun _ => fun
  | [d1, d2, d3] => { results := [.lit (.bool true)], args := [d1, d2, d3] }
  | _ => none }
def bitrSplitsRow : OpenClaim := { program := "ytohgkdiagekmbaa", sum := "b2580b30aae78c9f808902560200726f036a9f5550c96ad9da5bcac97045b982", func := "puncheon/puncheonlaw02.BitrSplits", spec := "bitrSplits", apart := false }
def BitrSplitsSaid : Prop := bitrSplitsRow.holds Try.pinned (OpenSpec.ofChange bitrSplitsSpec)

/-- ITS FALSE NEIGHBOUR: 'it returns false'. Refute it at one input. -/
def bitrSplitsWrong : ChangeSpec := { name := "bitrSplits", fn := fun _ => fun
  | [d1, d2, d3] => { results := [.lit (.bool false)], args := [d1, d2, d3] }
  | _ => none }
def BitrSplitsWrongFalsely : Prop := bitrSplitsRow.holds Try.pinned (OpenSpec.ofChange bitrSplitsWrong)

/-- 'puncheonlaw02.BitrOwn': WHATEVER THE INPUT: true; the input reads as it did. -/
def bitrOwnSpec : ChangeSpec := { name := "bitrOwn", fn := fun _ => fun
  | [d1, d2, d3] => { results := [.lit (.bool true)], args := [d1, d2, d3] }
  | _ => none }
def bitrOwnRow : OpenClaim := { program := "ytohgkdiagekmbaa", sum := "b2580b30aae78c9f808902560200726f036a9f5550c96ad9da5bcac97045b982", func := "puncheon/puncheonlaw02.BitrOwn", spec := "bitrOwn", apart := false }
def BitrOwnSaid : Prop := bitrOwnRow.holds Try.pinned (OpenSpec.ofChange bitrOwnSpec)

/-- ITS FALSE NEIGHBOUR: 'it returns false'. Refute it at one input. -/
def bitrOwnWrong : ChangeSpec := { name := "bitrOwn", fn := fun _ => fun
  | [d1, d2, d3] => { results := [.lit (.bool false)], args := [d1, d2, d3] }
  | _ => none }
def BitrOwnWrongFalsely : Prop := bitrOwnRow.holds Try.pinned (OpenSpec.ofChange bitrOwnWrong)

/-- 'puncheonlaw01.BitwPlays': WHATEVER THE INPUT: true; the input reads as it did. -/
def bitwPlaysSpec : ChangeSpec := { name := "bitwPlays", fn := fun _ => fun
  | [d] => { results := [.lit (.bool true)], args := [d] }
  | _ => none }
def bitwPlaysRow : OpenClaim := { program := "ytohgkdiagekmbaa", sum := "b2580b30aae78c9f808902560200726f036a9f5550c96ad9da5bcac97045b982", func := "puncheon/puncheonlaw01.BitwPlays", spec := "bitwPlays", apart := false }
def BitwPlaysSaid : Prop := bitwPlaysRow.holds Try.pinned (OpenSpec.ofChange bitwPlaysSpec)

/-- ITS FALSE NEIGHBOUR: 'it returns false'. Refute it at one input. -/
def bitwPlaysWrong : ChangeSpec := { name := "bitwPlays", fn := fun _ => fun
  | [d] => { results := [.lit (.bool false)], args := [d] }
  | _ => none }
def BitwPlaysWrongFalsely : Prop := bitwPlaysRow.holds Try.pinned (OpenSpec.ofChange bitwPlaysWrong)

/-- 'puncheonlaw01.BitwMark': WHATEVER THE INPUT: true; the input reads as it did. -/
def bitwMarkSpec : ChangeSpec := { name := "bitwMark", fn := fun _ => fun
  | [d] => { results := [.lit (.bool true)], args := [d] }
  | _ => none }
def bitwMarkRow : OpenClaim := { program := "ytohgkdiagekmbaa", sum := "b2580b30aae78c9f808902560200726f036a9f5550c96ad9da5bcac97045b982", func := "puncheon/puncheonlaw01.BitwMark", spec := "bitwMark", apart := false }
def BitwMarkSaid : Prop := bitwMarkRow.holds Try.pinned (OpenSpec.ofChange bitwMarkSpec)

/-- ITS FALSE NEIGHBOUR: 'it returns false'. Refute it at one input. -/
def bitwMarkWrong : ChangeSpec := { name := "bitwMark", fn := fun _ => fun
  | [d] => { results := [.lit (.bool false)], args := [d] }
  | _ => none }
def BitwMarkWrongFalsely : Prop := bitwMarkRow.holds Try.pinned (OpenSpec.ofChange bitwMarkWrong)

/-- 'puncheonlaw01.BitwSplits': WHATEVER THE INPUT: true; the input reads as it did. -/
def bitwSplitsSpec : ChangeSpec := { name := "bitwSplits", fn := fun _ => fun
  | [d1, d2, d3, d4, d5] => { results := [.lit (.bool true)], args := [d1, d2, d3, d4, d5] }
  | _ => none }
def bitwSplitsRow : OpenClaim := { program := "ytohgkdiagekmbaa", sum := "b2580b30aae78c9f808902560200726f036a9f5550c96ad9da5bcac97045b982", func := "puncheon/puncheonlaw01.BitwSplits", spec := "bitwSplits", apart := false }
def BitwSplitsSaid : Prop := bitwSplitsRow.holds Try.pinned (OpenSpec.ofChange bitwSplitsSpec)

/-- ITS FALSE NEIGHBOUR: 'it returns false'. Refute it at one input. -/
def bitwSplitsWrong : ChangeSpec := { name := "bitwSplits", fn := fun _ => fun
  | [d1, d2, d3, d4, d5] => { results := [.lit (.bool false)], args := [d1, d2, d3, d4, d5] }
  | _ => none }
def BitwSplitsWrongFalsely : Prop := bitwSplitsRow.holds Try.pinned (OpenSpec.ofChange bitwSplitsWrong)

/-- 'puncheonlaw01.BitwOwn': WHATEVER THE INPUT: true; the input reads as it did. -/
def bitwOwnSpec : ChangeSpec := { name := "bitwOwn", fn := fun _ => fun
  | [d1, d2] => { results := [.lit (.bool true)], args := [d1, d2] }
  | _ => none }
def bitwOwnRow : OpenClaim := { program := "ytohgkdiagekmbaa", sum := "b2580b30aae78c9f808902560200726f036a9f5550c96ad9da5bcac97045b982", func := "puncheon/puncheonlaw01.BitwOwn", spec := "bitwOwn", apart := false }
def BitwOwnSaid : Prop := bitwOwnRow.holds Try.pinned (OpenSpec.ofChange bitwOwnSpec)

/-- ITS FALSE NEIGHBOUR: 'it returns false'. Refute it at one input. -/
def bitwOwnWrong : ChangeSpec := { name := "bitwOwn", fn := fun _ => fun
  | [d1, d2] => { results := [.lit (.bool false)], args := [d1, d2] }
  | _ => none }
def BitwOwnWrongFalsely : Prop := bitwOwnRow.holds Try.pinned (OpenSpec.ofChange bitwOwnWrong)

/-- 'puncheonlaw01.BitwJoins': WHATEVER THE INPUT: true; the input reads as it did. -/
def bitwJoinsSpec : ChangeSpec := { name := "bitwJoins", fn := fun _ => fun
  | [d1, d2] => { results := [.lit (.bool true)], args := [d1, d2] }
  | _ => none }
def bitwJoinsRow : OpenClaim := { program := "ytohgkdiagekmbaa", sum := "b2580b30aae78c9f808902560200726f036a9f5550c96ad9da5bcac97045b982", func := "puncheon/puncheonlaw01.BitwJoins", spec := "bitwJoins", apart := false }
def BitwJoinsSaid : Prop := bitwJoinsRow.holds Try.pinned (OpenSpec.ofChange bitwJoinsSpec)

/-- ITS FALSE NEIGHBOUR: 'it returns false'. Refute it at one input. -/
def bitwJoinsWrong : ChangeSpec := { name := "bitwJoins", fn := fun _ => fun
  | [d1, d2] => { results := [.lit (.bool false)], args := [d1, d2] }
  | _ => none }
def BitwJoinsWrongFalsely : Prop := bitwJoinsRow.holds Try.pinned (OpenSpec.ofChange bitwJoinsWrong)

/-- 'puncheonlaw02.BitrAll': WHATEVER THE INPUT: true; the input reads as it did. -/
def bitrAllSpec : ChangeSpec := { name := "bitrAll", fn := fun _ => fun
  | [d] => { results := [.lit (.bool true)], args := [d] }
  | _ => none }
def bitrAllRow : OpenClaim := { program := "ytohgkdiagekmbaa", sum := "b2580b30aae78c9f808902560200726f036a9f5550c96ad9da5bcac97045b982", func := "puncheon/puncheonlaw02.BitrAll", spec := "bitrAll", apart := false }
def BitrAllSaid : Prop := bitrAllRow.holds Try.pinned (OpenSpec.ofChange bitrAllSpec)

/-- ITS FALSE NEIGHBOUR: 'it returns false'. Refute it at one input. -/
def bitrAllWrong : ChangeSpec := { name := "bitrAll", fn := fun _ => fun
  | [d] => { results := [.lit (.bool false)], args := [d] }
  | _ => none }
def BitrAllWrongFalsely : Prop := bitrAllRow.holds Try.pinned (OpenSpec.ofChange bitrAllWrong)

/-- 'puncheonlaw02.BitrBack': WHATEVER THE INPUT: true; the input reads as it did. -/
def bitrBackSpec : ChangeSpec := { name := "bitrBack", fn := fun _ => fun
  | [d] => { results := [.lit (.bool true)], args := [d] }
  | _ => none }
def bitrBackRow : OpenClaim := { program := "ytohgkdiagekmbaa", sum := "b2580b30aae78c9f808902560200726f036a9f5550c96ad9da5bcac97045b982", func := "puncheon/puncheonlaw02.BitrBack", spec := "bitrBack", apart := false }
def BitrBackSaid : Prop := bitrBackRow.holds Try.pinned (OpenSpec.ofChange bitrBackSpec)

/-- ITS FALSE NEIGHBOUR: 'it returns false'. Refute it at one input. -/
def bitrBackWrong : ChangeSpec := { name := "bitrBack", fn := fun _ => fun
  | [d] => { results := [.lit (.bool false)], args := [d] }
  | _ => none }
def BitrBackWrongFalsely : Prop := bitrBackRow.holds Try.pinned (OpenSpec.ofChange bitrBackWrong)

/- THE SECOND FORM. 'bulk': how many values and letters a reading holds, each counted each time it is reached (what is shared counts as often as it is met; a slice's spare places count too). A statement '..UptoSaid' is the law's where the arguments, and the package variables that the reading takes, are together of bulk at most 1048576: NARROWER than '..Said'. Prove '..Said' where nothing that the law and all that it calls make is longer than what came in: it says more and counts as full. Else prove '..UptoSaid'. A law counts once. -/
mutual
def uptoBulk {H : Type} : DataW H → Nat
  | .lit (.string bytes) => bytes.length + 1
  | .lit _ => 1
  | .nil => 1
  | .ptr d => uptoBulk d + 1
  | .slice elems spare => uptoBulkAll elems + uptoBulkAll spare + 1
  | .agg parts => uptoBulkAll parts + 1
  | .iface _ d => uptoBulk d + 1
  | .map entries => uptoBulkEntries entries + 1
  | .held _ => 1
def uptoBulkAll {H : Type} : List (DataW H) → Nat
  | [] => 0
  | d :: r => uptoBulk d + uptoBulkAll r
def uptoBulkEntries {H : Type} : List (Lit × DataW H) → Nat
  | [] => 0
  | x :: r => uptoBulkEntry x + uptoBulkEntries r
def uptoBulkEntry {H : Type} : Lit × DataW H → Nat
  | (.string bytes, d) => bytes.length + uptoBulk d + 1
  | (_, d) => uptoBulk d + 1
 end
def uptoSmall : (H : Type) → List (DataW H) → Bool := fun _ ds => decide (uptoBulkAll ds ≤ 1048576)
def OpenSpec.upto (s : _root_.Go.ChangeSpec) : _root_.Go.OpenSpec := { _root_.Go.OpenSpec.ofChange s with cond := some uptoSmall }

/-- 'puncheonlaw02.BitrPlays', WHERE WHAT IT READS IS OF BULK AT MOST 1048576: true; the input reads as it did. -/
def bitrPlaysUptoRow : OpenClaim := { program := "ytohgkdiagekmbaa", sum := "b2580b30aae78c9f808902560200726f036a9f5550c96ad9da5bcac97045b982", func := "puncheon/puncheonlaw02.BitrPlays", spec := "bitrPlays", apart := false, narrowed := true }
def BitrPlaysUptoSaid : Prop := bitrPlaysUptoRow.holds Try.pinned (OpenSpec.upto bitrPlaysSpec)

/-- 'puncheonlaw02.BitrSplits', WHERE WHAT IT READS IS OF BULK AT MOST 1048576: true; the input reads as it did. -/
def bitrSplitsUptoRow : OpenClaim := { program := "ytohgkdiagekmbaa", sum := "b2580b30aae78c9f808902560200726f036a9f5550c96ad9da5bcac97045b982", func := "puncheon/puncheonlaw02.BitrSplits", spec := "bitrSplits", apart := false, narrowed := true }
def BitrSplitsUptoSaid : Prop := bitrSplitsUptoRow.holds Try.pinned (OpenSpec.upto bitrSplitsSpec)

/-- 'puncheonlaw02.BitrOwn', WHERE WHAT IT READS IS OF BULK AT MOST 1048576: true; the input reads as it did. -/
def bitrOwnUptoRow : OpenClaim := { program := "ytohgkdiagekmbaa", sum := "b2580b30aae78c9f808902560200726f036a9f5550c96ad9da5bcac97045b982", func := "puncheon/puncheonlaw02.BitrOwn", spec := "bitrOwn", apart := false, narrowed := true }
def BitrOwnUptoSaid : Prop := bitrOwnUptoRow.holds Try.pinned (OpenSpec.upto bitrOwnSpec)

/-- 'puncheonlaw01.BitwPlays', WHERE WHAT IT READS IS OF BULK AT MOST 1048576: true; the input reads as it did. -/
def bitwPlaysUptoRow : OpenClaim := { program := "ytohgkdiagekmbaa", sum := "b2580b30aae78c9f808902560200726f036a9f5550c96ad9da5bcac97045b982", func := "puncheon/puncheonlaw01.BitwPlays", spec := "bitwPlays", apart := false, narrowed := true }
def BitwPlaysUptoSaid : Prop := bitwPlaysUptoRow.holds Try.pinned (OpenSpec.upto bitwPlaysSpec)

/-- 'puncheonlaw01.BitwMark', WHERE WHAT IT READS IS OF BULK AT MOST 1048576: true; the input reads as it did. -/
def bitwMarkUptoRow : OpenClaim := { program := "ytohgkdiagekmbaa", sum := "b2580b30aae78c9f808902560200726f036a9f5550c96ad9da5bcac97045b982", func := "puncheon/puncheonlaw01.BitwMark", spec := "bitwMark", apart := false, narrowed := true }
def BitwMarkUptoSaid : Prop := bitwMarkUptoRow.holds Try.pinned (OpenSpec.upto bitwMarkSpec)

/-- 'puncheonlaw01.BitwSplits', WHERE WHAT IT READS IS OF BULK AT MOST 1048576: true; the input reads as it did. -/
def bitwSplitsUptoRow : OpenClaim := { program := "ytohgkdiagekmbaa", sum := "b2580b30aae78c9f808902560200726f036a9f5550c96ad9da5bcac97045b982", func := "puncheon/puncheonlaw01.BitwSplits", spec := "bitwSplits", apart := false, narrowed := true }
def BitwSplitsUptoSaid : Prop := bitwSplitsUptoRow.holds Try.pinned (OpenSpec.upto bitwSplitsSpec)

/-- 'puncheonlaw01.BitwOwn', WHERE WHAT IT READS IS OF BULK AT MOST 1048576: true; the input reads as it did. -/
def bitwOwnUptoRow : OpenClaim := { program := "ytohgkdiagekmbaa", sum := "b2580b30aae78c9f808902560200726f036a9f5550c96ad9da5bcac97045b982", func := "puncheon/puncheonlaw01.BitwOwn", spec := "bitwOwn", apart := false, narrowed := true }
def BitwOwnUptoSaid : Prop := bitwOwnUptoRow.holds Try.pinned (OpenSpec.upto bitwOwnSpec)

/-- 'puncheonlaw01.BitwJoins', WHERE WHAT IT READS IS OF BULK AT MOST 1048576: true; the input reads as it did. -/
def bitwJoinsUptoRow : OpenClaim := { program := "ytohgkdiagekmbaa", sum := "b2580b30aae78c9f808902560200726f036a9f5550c96ad9da5bcac97045b982", func := "puncheon/puncheonlaw01.BitwJoins", spec := "bitwJoins", apart := false, narrowed := true }
def BitwJoinsUptoSaid : Prop := bitwJoinsUptoRow.holds Try.pinned (OpenSpec.upto bitwJoinsSpec)

/-- 'puncheonlaw02.BitrAll', WHERE WHAT IT READS IS OF BULK AT MOST 1048576: true; the input reads as it did. -/
def bitrAllUptoRow : OpenClaim := { program := "ytohgkdiagekmbaa", sum := "b2580b30aae78c9f808902560200726f036a9f5550c96ad9da5bcac97045b982", func := "puncheon/puncheonlaw02.BitrAll", spec := "bitrAll", apart := false, narrowed := true }
def BitrAllUptoSaid : Prop := bitrAllUptoRow.holds Try.pinned (OpenSpec.upto bitrAllSpec)

/-- 'puncheonlaw02.BitrBack', WHERE WHAT IT READS IS OF BULK AT MOST 1048576: true; the input reads as it did. -/
def bitrBackUptoRow : OpenClaim := { program := "ytohgkdiagekmbaa", sum := "b2580b30aae78c9f808902560200726f036a9f5550c96ad9da5bcac97045b982", func := "puncheon/puncheonlaw02.BitrBack", spec := "bitrBack", apart := false, narrowed := true }
def BitrBackUptoSaid : Prop := bitrBackUptoRow.holds Try.pinned (OpenSpec.upto bitrBackSpec)

end Rows
end Go.Proofs.Ytohgkdiagekmbaa
