/-
  No cell of these rows narrows 'for every input' (looked for: loops, veiled, ifaces, maps, wideKeys, modest, calm, conditions, laid).
  DERIVED. THE GIVEN ROWS OF THIS SEAT. 9 by the template 'for every input the law returns true; each argument reads behind the call as it read before'; 0 by the template 'total and deterministic' (their statements: YtdgomddbppgkmaaTotals.lean).
  GIVEN WITH THE SEED: the statements are not yours to turn. If you find one false, say at which input.
  Laid BY PROGRAM, IN A SANDBOX (cutbox-rows.mjs): the forced cells as the released guide's own fill.sh prints them over the translation 537c6d029ba399bf… (all of the seat's roots in one cut). By AI agents, Wed Nov 11 2026. No macro, syntax, notation, axiom, sorry.
-/
import Derived.Test.YtdgomddbppgkmaaChecked
import GoSem.Claim
import GoSem.ClaimJoined
import GoSem.ClaimMapViews
import Derived.JoinedTies
import Derived.KernelRfl
namespace Go.Proofs.Ytdgomddbppgkmaa
/- THE CELL 'sum', in the pinned program and in every row, IS THE sha256 OF THE DUMP (.gsa) THAT YtdgomddbppgkmaaProg.lean LOADS. Nothing in Lean hashes anything: it is a label: what it is worth is what the hold of that sum in a sandbox is worth. -/
noncomputable def Try.pinned : Pinned := { name := "ytdgomddbppgkmaa", sum := "537c6d029ba399bf5b50b23ecb79b4c9e8beb2e7924ce7a4e209b6ed011e1c01", checked := Try.checked }
namespace Rows
def none {H : Type} : Left H := { results := [], args := [] }

/-- 'puncheonlaw21.PlainEncode': WHATEVER THE INPUT: true; the input reads as it did. -/
def plainEncodeSpec : ChangeSpec := { name := "plainEncode", fn := fun _ => fun
  | [d1, d2] => { results := [.lit (.bool true)], args := [d1, d2] }
  | _ => none }
def plainEncodeRow : OpenClaim := { program := "ytdgomddbppgkmaa", sum := "537c6d029ba399bf5b50b23ecb79b4c9e8beb2e7924ce7a4e209b6ed011e1c01", func := "puncheon/puncheonlaw21.PlainEncode", spec := "plainEncode", unfollowed := true, recurses := true, apart := false }
def PlainEncodeSaid : Prop := plainEncodeRow.holds Try.pinned (OpenSpec.ofChange plainEncodeSpec)

/-- ITS FALSE NEIGHBOUR: 'it returns false'. Refute it at one input. -/
def plainEncodeWrong : ChangeSpec := { name := "plainEncode", fn := fun _ => fun
  | [d1, d2] => { results := [.lit (.bool false)], args := [d1, d2] }
  | _ => none }
def PlainEncodeWrongFalsely : Prop := plainEncodeRow.holds Try.pinned (OpenSpec.ofChange plainEncodeWrong)

/-- 'puncheonlaw21.PlainDecode': WHATEVER THE INPUT: true; the input reads as it did. -/
def plainDecodeSpec : ChangeSpec := { name := "plainDecode", fn := fun _ => fun
  | [d1, d2, d3] => { results := [.lit (.bool true)], args := [d1, d2, d3] }
  | _ => none }
def plainDecodeRow : OpenClaim := { program := "ytdgomddbppgkmaa", sum := "537c6d029ba399bf5b50b23ecb79b4c9e8beb2e7924ce7a4e209b6ed011e1c01", func := "puncheon/puncheonlaw21.PlainDecode", spec := "plainDecode", unfollowed := true, recurses := true, apart := false }
def PlainDecodeSaid : Prop := plainDecodeRow.holds Try.pinned (OpenSpec.ofChange plainDecodeSpec)

/-- ITS FALSE NEIGHBOUR: 'it returns false'. Refute it at one input. -/
def plainDecodeWrong : ChangeSpec := { name := "plainDecode", fn := fun _ => fun
  | [d1, d2, d3] => { results := [.lit (.bool false)], args := [d1, d2, d3] }
  | _ => none }
def PlainDecodeWrongFalsely : Prop := plainDecodeRow.holds Try.pinned (OpenSpec.ofChange plainDecodeWrong)

/-- 'puncheonlaw21.PlainBack': WHATEVER THE INPUT: true; the input reads as it did. -/
def plainBackSpec : ChangeSpec := { name := "plainBack", fn := fun _ => fun
  | [d1, d2, d3] => { results := [.lit (.bool true)], args := [d1, d2, d3] }
  | _ => none }
def plainBackRow : OpenClaim := { program := "ytdgomddbppgkmaa", sum := "537c6d029ba399bf5b50b23ecb79b4c9e8beb2e7924ce7a4e209b6ed011e1c01", func := "puncheon/puncheonlaw21.PlainBack", spec := "plainBack", unfollowed := true, recurses := true, apart := false }
def PlainBackSaid : Prop := plainBackRow.holds Try.pinned (OpenSpec.ofChange plainBackSpec)

/-- ITS FALSE NEIGHBOUR: 'it returns false'. Refute it at one input. -/
def plainBackWrong : ChangeSpec := { name := "plainBack", fn := fun _ => fun
  | [d1, d2, d3] => { results := [.lit (.bool false)], args := [d1, d2, d3] }
  | _ => none }
def PlainBackWrongFalsely : Prop := plainBackRow.holds Try.pinned (OpenSpec.ofChange plainBackWrong)

/-- 'puncheonlaw21.PlainOwn': WHATEVER THE INPUT: true; the input reads as it did. -/
def plainOwnSpec : ChangeSpec := { name := "plainOwn", fn := fun _ => fun
  | [d1, d2] => { results := [.lit (.bool true)], args := [d1, d2] }
  | _ => none }
def plainOwnRow : OpenClaim := { program := "ytdgomddbppgkmaa", sum := "537c6d029ba399bf5b50b23ecb79b4c9e8beb2e7924ce7a4e209b6ed011e1c01", func := "puncheon/puncheonlaw21.PlainOwn", spec := "plainOwn", unfollowed := true, recurses := true, apart := false }
def PlainOwnSaid : Prop := plainOwnRow.holds Try.pinned (OpenSpec.ofChange plainOwnSpec)

/-- ITS FALSE NEIGHBOUR: 'it returns false'. Refute it at one input. -/
def plainOwnWrong : ChangeSpec := { name := "plainOwn", fn := fun _ => fun
  | [d1, d2] => { results := [.lit (.bool false)], args := [d1, d2] }
  | _ => none }
def PlainOwnWrongFalsely : Prop := plainOwnRow.holds Try.pinned (OpenSpec.ofChange plainOwnWrong)

/-- 'puncheonlaw19.DirPuts': WHATEVER THE INPUT: true; the input reads as it did. -/
def dirPutsSpec : ChangeSpec := { name := "dirPuts", fn := fun _ => fun
  | [d] => { results := [.lit (.bool true)], args := [d] }
  | _ => none }
def dirPutsRow : OpenClaim := { program := "ytdgomddbppgkmaa", sum := "537c6d029ba399bf5b50b23ecb79b4c9e8beb2e7924ce7a4e209b6ed011e1c01", func := "puncheon/puncheonlaw19.DirPuts", spec := "dirPuts", unfollowed := true, recurses := true, apart := false }
def DirPutsSaid : Prop := dirPutsRow.holds Try.pinned (OpenSpec.ofChange dirPutsSpec)

/-- ITS FALSE NEIGHBOUR: 'it returns false'. Refute it at one input. -/
def dirPutsWrong : ChangeSpec := { name := "dirPuts", fn := fun _ => fun
  | [d] => { results := [.lit (.bool false)], args := [d] }
  | _ => none }
def DirPutsWrongFalsely : Prop := dirPutsRow.holds Try.pinned (OpenSpec.ofChange dirPutsWrong)

/-- 'puncheonlaw19.DirTakes': WHATEVER THE INPUT: true; the input reads as it did. -/
def dirTakesSpec : ChangeSpec := { name := "dirTakes", fn := fun _ => fun
  | [d1, d2] => { results := [.lit (.bool true)], args := [d1, d2] }
  | _ => none }
def dirTakesRow : OpenClaim := { program := "ytdgomddbppgkmaa", sum := "537c6d029ba399bf5b50b23ecb79b4c9e8beb2e7924ce7a4e209b6ed011e1c01", func := "puncheon/puncheonlaw19.DirTakes", spec := "dirTakes", unfollowed := true, recurses := true, apart := false }
def DirTakesSaid : Prop := dirTakesRow.holds Try.pinned (OpenSpec.ofChange dirTakesSpec)

/-- ITS FALSE NEIGHBOUR: 'it returns false'. Refute it at one input. -/
def dirTakesWrong : ChangeSpec := { name := "dirTakes", fn := fun _ => fun
  | [d1, d2] => { results := [.lit (.bool false)], args := [d1, d2] }
  | _ => none }
def DirTakesWrongFalsely : Prop := dirTakesRow.holds Try.pinned (OpenSpec.ofChange dirTakesWrong)

/-- 'puncheonlaw19.DirOne': WHATEVER THE INPUT: true; the input reads as it did. -/
def dirOneSpec : ChangeSpec := { name := "dirOne", fn := fun _ => fun
  | [d] => { results := [.lit (.bool true)], args := [d] }
  | _ => none }
def dirOneRow : OpenClaim := { program := "ytdgomddbppgkmaa", sum := "537c6d029ba399bf5b50b23ecb79b4c9e8beb2e7924ce7a4e209b6ed011e1c01", func := "puncheon/puncheonlaw19.DirOne", spec := "dirOne", unfollowed := true, recurses := true, apart := false }
def DirOneSaid : Prop := dirOneRow.holds Try.pinned (OpenSpec.ofChange dirOneSpec)

/-- ITS FALSE NEIGHBOUR: 'it returns false'. Refute it at one input. -/
def dirOneWrong : ChangeSpec := { name := "dirOne", fn := fun _ => fun
  | [d] => { results := [.lit (.bool false)], args := [d] }
  | _ => none }
def DirOneWrongFalsely : Prop := dirOneRow.holds Try.pinned (OpenSpec.ofChange dirOneWrong)

/-- 'puncheonlaw19.DirBack': WHATEVER THE INPUT: true; the input reads as it did. -/
def dirBackSpec : ChangeSpec := { name := "dirBack", fn := fun _ => fun
  | [d1, d2] => { results := [.lit (.bool true)], args := [d1, d2] }
  | _ => none }
def dirBackRow : OpenClaim := { program := "ytdgomddbppgkmaa", sum := "537c6d029ba399bf5b50b23ecb79b4c9e8beb2e7924ce7a4e209b6ed011e1c01", func := "puncheon/puncheonlaw19.DirBack", spec := "dirBack", unfollowed := true, recurses := true, apart := false }
def DirBackSaid : Prop := dirBackRow.holds Try.pinned (OpenSpec.ofChange dirBackSpec)

/-- ITS FALSE NEIGHBOUR: 'it returns false'. Refute it at one input. -/
def dirBackWrong : ChangeSpec := { name := "dirBack", fn := fun _ => fun
  | [d1, d2] => { results := [.lit (.bool false)], args := [d1, d2] }
  | _ => none }
def DirBackWrongFalsely : Prop := dirBackRow.holds Try.pinned (OpenSpec.ofChange dirBackWrong)

/-- 'puncheonlaw19.DirMore': WHATEVER THE INPUT: true; the input reads as it did. -/
def dirMoreSpec : ChangeSpec := { name := "dirMore", fn := fun _ => fun
  | [d1, d2] => { results := [.lit (.bool true)], args := [d1, d2] }
  | _ => none }
def dirMoreRow : OpenClaim := { program := "ytdgomddbppgkmaa", sum := "537c6d029ba399bf5b50b23ecb79b4c9e8beb2e7924ce7a4e209b6ed011e1c01", func := "puncheon/puncheonlaw19.DirMore", spec := "dirMore", unfollowed := true, recurses := true, apart := false }
def DirMoreSaid : Prop := dirMoreRow.holds Try.pinned (OpenSpec.ofChange dirMoreSpec)

/-- ITS FALSE NEIGHBOUR: 'it returns false'. Refute it at one input. -/
def dirMoreWrong : ChangeSpec := { name := "dirMore", fn := fun _ => fun
  | [d1, d2] => { results := [.lit (.bool false)], args := [d1, d2] }
  | _ => none }
def DirMoreWrongFalsely : Prop := dirMoreRow.holds Try.pinned (OpenSpec.ofChange dirMoreWrong)

/- THE SECOND FORM. 'bulk': how many values and letters a reading holds, each counted each time it is reached (what is shared counts as often as it is met; a slice's spare places count too). A statement '..UptoSaid' is the law's where the arguments, and the package variables that the reading takes, are together of bulk at most 1048576: NARROWER than '..Said'. Prove '..Said' where nothing that the law and all that it calls make is longer than what came in: it says more and counts as full. Else prove '..UptoSaid'. A law counts once. -/
mutual
def uptoBulk {H : Type} : DataW H → Nat
  | .lit (.string bytes) => bytes.length + 1
  | .lit _ => 1
  | .nil => 1
  | .ptr d => uptoBulk d + 1
  | .slice elems spare => uptoBulkAll elems + uptoBulkAll spare + 1
  | .agg parts => uptoBulkAll parts + 1
  | .iface _ d => uptoBulk d + 1
  | .map entries => uptoBulkEntries entries + 1
  | .held _ => 1
def uptoBulkAll {H : Type} : List (DataW H) → Nat
  | [] => 0
  | d :: r => uptoBulk d + uptoBulkAll r
def uptoBulkEntries {H : Type} : List (Lit × DataW H) → Nat
  | [] => 0
  | x :: r => uptoBulkEntry x + uptoBulkEntries r
def uptoBulkEntry {H : Type} : Lit × DataW H → Nat
  | (.string bytes, d) => bytes.length + uptoBulk d + 1
  | (_, d) => uptoBulk d + 1
 end
def uptoSmall : (H : Type) → List (DataW H) → Bool := fun _ ds => decide (uptoBulkAll ds ≤ 1048576)
def OpenSpec.upto (s : _root_.Go.ChangeSpec) : _root_.Go.OpenSpec := { _root_.Go.OpenSpec.ofChange s with cond := some uptoSmall }

/-- 'puncheonlaw21.PlainEncode', WHERE WHAT IT READS IS OF BULK AT MOST 1048576: true; the input reads as it did. -/
def plainEncodeUptoRow : OpenClaim := { program := "ytdgomddbppgkmaa", sum := "537c6d029ba399bf5b50b23ecb79b4c9e8beb2e7924ce7a4e209b6ed011e1c01", func := "puncheon/puncheonlaw21.PlainEncode", spec := "plainEncode", unfollowed := true, recurses := true, apart := false, narrowed := true }
def PlainEncodeUptoSaid : Prop := plainEncodeUptoRow.holds Try.pinned (OpenSpec.upto plainEncodeSpec)

/-- 'puncheonlaw21.PlainDecode', WHERE WHAT IT READS IS OF BULK AT MOST 1048576: true; the input reads as it did. -/
def plainDecodeUptoRow : OpenClaim := { program := "ytdgomddbppgkmaa", sum := "537c6d029ba399bf5b50b23ecb79b4c9e8beb2e7924ce7a4e209b6ed011e1c01", func := "puncheon/puncheonlaw21.PlainDecode", spec := "plainDecode", unfollowed := true, recurses := true, apart := false, narrowed := true }
def PlainDecodeUptoSaid : Prop := plainDecodeUptoRow.holds Try.pinned (OpenSpec.upto plainDecodeSpec)

/-- 'puncheonlaw21.PlainBack', WHERE WHAT IT READS IS OF BULK AT MOST 1048576: true; the input reads as it did. -/
def plainBackUptoRow : OpenClaim := { program := "ytdgomddbppgkmaa", sum := "537c6d029ba399bf5b50b23ecb79b4c9e8beb2e7924ce7a4e209b6ed011e1c01", func := "puncheon/puncheonlaw21.PlainBack", spec := "plainBack", unfollowed := true, recurses := true, apart := false, narrowed := true }
def PlainBackUptoSaid : Prop := plainBackUptoRow.holds Try.pinned (OpenSpec.upto plainBackSpec)

/-- 'puncheonlaw21.PlainOwn', WHERE WHAT IT READS IS OF BULK AT MOST 1048576: true; the input reads as it did. -/
def plainOwnUptoRow : OpenClaim := { program := "ytdgomddbppgkmaa", sum := "537c6d029ba399bf5b50b23ecb79b4c9e8beb2e7924ce7a4e209b6ed011e1c01", func := "puncheon/puncheonlaw21.PlainOwn", spec := "plainOwn", unfollowed := true, recurses := true, apart := false, narrowed := true }
def PlainOwnUptoSaid : Prop := plainOwnUptoRow.holds Try.pinned (OpenSpec.upto plainOwnSpec)

/-- 'puncheonlaw19.DirPuts', WHERE WHAT IT READS IS OF BULK AT MOST 1048576: true; the input reads as it did. -/
def dirPutsUptoRow : OpenClaim := { program := "ytdgomddbppgkmaa", sum := "537c6d029ba399bf5b50b23ecb79b4c9e8beb2e7924ce7a4e209b6ed011e1c01", func := "puncheon/puncheonlaw19.DirPuts", spec := "dirPuts", unfollowed := true, recurses := true, apart := false, narrowed := true }
def DirPutsUptoSaid : Prop := dirPutsUptoRow.holds Try.pinned (OpenSpec.upto dirPutsSpec)

/-- 'puncheonlaw19.DirTakes', WHERE WHAT IT READS IS OF BULK AT MOST 1048576: true; the input reads as it did. -/
def dirTakesUptoRow : OpenClaim := { program := "ytdgomddbppgkmaa", sum := "537c6d029ba399bf5b50b23ecb79b4c9e8beb2e7924ce7a4e209b6ed011e1c01", func := "puncheon/puncheonlaw19.DirTakes", spec := "dirTakes", unfollowed := true, recurses := true, apart := false, narrowed := true }
def DirTakesUptoSaid : Prop := dirTakesUptoRow.holds Try.pinned (OpenSpec.upto dirTakesSpec)

/-- 'puncheonlaw19.DirOne', WHERE WHAT IT READS IS OF BULK AT MOST 1048576: true; the input reads as it did. -/
def dirOneUptoRow : OpenClaim := { program := "ytdgomddbppgkmaa", sum := "537c6d029ba399bf5b50b23ecb79b4c9e8beb2e7924ce7a4e209b6ed011e1c01", func := "puncheon/puncheonlaw19.DirOne", spec := "dirOne", unfollowed := true, recurses := true, apart := false, narrowed := true }
def DirOneUptoSaid : Prop := dirOneUptoRow.holds Try.pinned (OpenSpec.upto dirOneSpec)

/-- 'puncheonlaw19.DirBack', WHERE WHAT IT READS IS OF BULK AT MOST 1048576: true; the input reads as it did. -/
def dirBackUptoRow : OpenClaim := { program := "ytdgomddbppgkmaa", sum := "537c6d029ba399bf5b50b23ecb79b4c9e8beb2e7924ce7a4e209b6ed011e1c01", func := "puncheon/puncheonlaw19.DirBack", spec := "dirBack", unfollowed := true, recurses := true, apart := false, narrowed := true }
def DirBackUptoSaid : Prop := dirBackUptoRow.holds Try.pinned (OpenSpec.upto dirBackSpec)

/-- 'puncheonlaw19.DirMore', WHERE WHAT IT READS IS OF BULK AT MOST 1048576: true; the input reads as it did. -/
def dirMoreUptoRow : OpenClaim := { program := "ytdgomddbppgkmaa", sum := "537c6d029ba399bf5b50b23ecb79b4c9e8beb2e7924ce7a4e209b6ed011e1c01", func := "puncheon/puncheonlaw19.DirMore", spec := "dirMore", unfollowed := true, recurses := true, apart := false, narrowed := true }
def DirMoreUptoSaid : Prop := dirMoreUptoRow.holds Try.pinned (OpenSpec.upto dirMoreSpec)

end Rows
end Go.Proofs.Ytdgomddbppgkmaa
