/-
  No cell of these rows narrows 'for every input' (looked for: loops, veiled, ifaces, maps, wideKeys, modest, calm, conditions, laid).
  DERIVED. THE GIVEN ROWS OF THIS SEAT. 9 by the template 'for every input the law returns true; each argument reads behind the call as it read before'; 0 by the template 'total and deterministic' (their statements: YthegdcodjhbonaaTotals.lean).
  GIVEN WITH THE SEED: the statements are not yours to turn. If you find one false, say at which input.
  Laid BY PROGRAM, IN A SANDBOX (cutbox-rows.mjs): the forced cells as the released guide's own fill.sh prints them over the translation fa093e0e0455d636… (all of the seat's roots in one cut). By AI agents, Wed Nov 11 2026. No macro, syntax, notation, axiom, sorry.
-/
import Derived.Test.YthegdcodjhbonaaChecked
import GoSem.Claim
import GoSem.ClaimJoined
import GoSem.ClaimMapViews
import Derived.JoinedTies
import Derived.KernelRfl
namespace Go.Proofs.Ythegdcodjhbonaa
/- THE CELL 'sum', in the pinned program and in every row, IS THE sha256 OF THE DUMP (.gsa) THAT YthegdcodjhbonaaProg.lean LOADS. Nothing in Lean hashes anything: it is a label: what it is worth is what the hold of that sum in a sandbox is worth. -/
noncomputable def Try.pinned : Pinned := { name := "ythegdcodjhbonaa", sum := "fa093e0e0455d636d702bdb006f4ab7beda3ee3e7dd54b24f628153c65cf9ad0", checked := Try.checked }
namespace Rows
def none {H : Type} : Left H := { results := [], args := [] }

/-- 'belvederelaw13.OnceSums': WHATEVER THE INPUT: true; the input reads as it did. -/
def onceSumsSpec : ChangeSpec := { name := "onceSums", fn := fun _ => fun
  | [d] => { results := [.lit (.bool true)], args := [d] }
  | _ => none }
def onceSumsRow : OpenClaim := { program := "ythegdcodjhbonaa", sum := "fa093e0e0455d636d702bdb006f4ab7beda3ee3e7dd54b24f628153c65cf9ad0", func := "belvedere/belvederelaw13.OnceSums", spec := "onceSums", inPlace := ["math/bits.Add64"], apart := false }
def OnceSumsSaid : Prop := onceSumsRow.holds Try.pinned (OpenSpec.ofChange onceSumsSpec)

/-- ITS FALSE NEIGHBOUR: 'it returns false'. Refute it at one input. -/
def onceSumsWrong : ChangeSpec := { name := "onceSums", fn := fun _ => fun
  | [d] => { results := [.lit (.bool false)], args := [d] }
  | _ => none }
def OnceSumsWrongFalsely : Prop := onceSumsRow.holds Try.pinned (OpenSpec.ofChange onceSumsWrong)

/-- 'belvederelaw4.SliceOwn': WHATEVER THE INPUT: true; the input reads as it did. -/
def sliceOwnSpec : ChangeSpec := { name := "sliceOwn", fn := fun _ => fun
  | [d] => { results := [.lit (.bool true)], args := [d] }
  | _ => none }
def sliceOwnRow : OpenClaim := { program := "ythegdcodjhbonaa", sum := "fa093e0e0455d636d702bdb006f4ab7beda3ee3e7dd54b24f628153c65cf9ad0", func := "belvedere/belvederelaw4.SliceOwn", spec := "sliceOwn", inPlace := ["internal/bytealg.abigen_runtime_cmpstring", "math/bits.Add64"], unfollowed := true, recurses := true, apart := false }
def SliceOwnSaid : Prop := sliceOwnRow.holds Try.pinned (OpenSpec.ofChange sliceOwnSpec)

/-- ITS FALSE NEIGHBOUR: 'it returns false'. Refute it at one input. -/
def sliceOwnWrong : ChangeSpec := { name := "sliceOwn", fn := fun _ => fun
  | [d] => { results := [.lit (.bool false)], args := [d] }
  | _ => none }
def SliceOwnWrongFalsely : Prop := sliceOwnRow.holds Try.pinned (OpenSpec.ofChange sliceOwnWrong)

/-- 'belvederelaw4.SliceChunks': WHATEVER THE INPUT: true; the input reads as it did. -/
def sliceChunksSpec : ChangeSpec := { name := "sliceChunks", fn := fun _ => fun
  | [d1, d2] => { results := [.lit (.bool true)], args := [d1, d2] }
  | _ => none }
def sliceChunksRow : OpenClaim := { program := "ythegdcodjhbonaa", sum := "fa093e0e0455d636d702bdb006f4ab7beda3ee3e7dd54b24f628153c65cf9ad0", func := "belvedere/belvederelaw4.SliceChunks", spec := "sliceChunks", inPlace := ["internal/bytealg.abigen_runtime_cmpstring", "math/bits.Add64"], unfollowed := true, recurses := true, apart := false }
def SliceChunksSaid : Prop := sliceChunksRow.holds Try.pinned (OpenSpec.ofChange sliceChunksSpec)

/-- ITS FALSE NEIGHBOUR: 'it returns false'. Refute it at one input. -/
def sliceChunksWrong : ChangeSpec := { name := "sliceChunks", fn := fun _ => fun
  | [d1, d2] => { results := [.lit (.bool false)], args := [d1, d2] }
  | _ => none }
def SliceChunksWrongFalsely : Prop := sliceChunksRow.holds Try.pinned (OpenSpec.ofChange sliceChunksWrong)

/-- 'belvederelaw4.SliceSays': WHATEVER THE INPUT: true; the input reads as it did. -/
def sliceSaysSpec : ChangeSpec := { name := "sliceSays", fn := fun _ => fun
  | [d1, d2, d3] => { results := [.lit (.bool true)], args := [d1, d2, d3] }
  | _ => none }
def sliceSaysRow : OpenClaim := { program := "ythegdcodjhbonaa", sum := "fa093e0e0455d636d702bdb006f4ab7beda3ee3e7dd54b24f628153c65cf9ad0", func := "belvedere/belvederelaw4.SliceSays", spec := "sliceSays", inPlace := ["internal/bytealg.abigen_runtime_cmpstring", "math/bits.Add64"], unfollowed := true, recurses := true, apart := false }
def SliceSaysSaid : Prop := sliceSaysRow.holds Try.pinned (OpenSpec.ofChange sliceSaysSpec)

/-- ITS FALSE NEIGHBOUR: 'it returns false'. Refute it at one input. -/
def sliceSaysWrong : ChangeSpec := { name := "sliceSays", fn := fun _ => fun
  | [d1, d2, d3] => { results := [.lit (.bool false)], args := [d1, d2, d3] }
  | _ => none }
def SliceSaysWrongFalsely : Prop := sliceSaysRow.holds Try.pinned (OpenSpec.ofChange sliceSaysWrong)

/-- 'belvederelaw4.SliceParts': WHATEVER THE INPUT: true; the input reads as it did. -/
def slicePartsSpec : ChangeSpec := { name := "sliceParts", fn := fun _ => fun
  | [d1, d2, d3] => { results := [.lit (.bool true)], args := [d1, d2, d3] }
  | _ => none }
def slicePartsRow : OpenClaim := { program := "ythegdcodjhbonaa", sum := "fa093e0e0455d636d702bdb006f4ab7beda3ee3e7dd54b24f628153c65cf9ad0", func := "belvedere/belvederelaw4.SliceParts", spec := "sliceParts", inPlace := ["internal/bytealg.abigen_runtime_cmpstring", "math/bits.Add64"], unfollowed := true, recurses := true, apart := false }
def SlicePartsSaid : Prop := slicePartsRow.holds Try.pinned (OpenSpec.ofChange slicePartsSpec)

/-- ITS FALSE NEIGHBOUR: 'it returns false'. Refute it at one input. -/
def slicePartsWrong : ChangeSpec := { name := "sliceParts", fn := fun _ => fun
  | [d1, d2, d3] => { results := [.lit (.bool false)], args := [d1, d2, d3] }
  | _ => none }
def SlicePartsWrongFalsely : Prop := slicePartsRow.holds Try.pinned (OpenSpec.ofChange slicePartsWrong)

/-- 'belvederelaw22.ClipPlays': WHATEVER THE INPUT: true; the input reads as it did. -/
def clipPlaysSpec : ChangeSpec := { name := "clipPlays", fn := fun _ => fun
  | [d1, d2] => { results := [.lit (.bool true)], args := [d1, d2] }
  | _ => none }
def clipPlaysRow : OpenClaim := { program := "ythegdcodjhbonaa", sum := "fa093e0e0455d636d702bdb006f4ab7beda3ee3e7dd54b24f628153c65cf9ad0", func := "belvedere/belvederelaw22.ClipPlays", spec := "clipPlays", inPlace := ["internal/bytealg.abigen_runtime_cmpstring", "math/bits.Add64"], unfollowed := true, recurses := true, apart := false }
def ClipPlaysSaid : Prop := clipPlaysRow.holds Try.pinned (OpenSpec.ofChange clipPlaysSpec)

/-- ITS FALSE NEIGHBOUR: 'it returns false'. Refute it at one input. -/
def clipPlaysWrong : ChangeSpec := { name := "clipPlays", fn := fun _ => fun
  | [d1, d2] => { results := [.lit (.bool false)], args := [d1, d2] }
  | _ => none }
def ClipPlaysWrongFalsely : Prop := clipPlaysRow.holds Try.pinned (OpenSpec.ofChange clipPlaysWrong)

/-- 'belvederelaw22.ClipEnds': WHATEVER THE INPUT: true; the input reads as it did. -/
def clipEndsSpec : ChangeSpec := { name := "clipEnds", fn := fun _ => fun
  | [d1, d2] => { results := [.lit (.bool true)], args := [d1, d2] }
  | _ => none }
def clipEndsRow : OpenClaim := { program := "ythegdcodjhbonaa", sum := "fa093e0e0455d636d702bdb006f4ab7beda3ee3e7dd54b24f628153c65cf9ad0", func := "belvedere/belvederelaw22.ClipEnds", spec := "clipEnds", inPlace := ["internal/bytealg.abigen_runtime_cmpstring", "math/bits.Add64"], unfollowed := true, recurses := true, apart := false }
def ClipEndsSaid : Prop := clipEndsRow.holds Try.pinned (OpenSpec.ofChange clipEndsSpec)

/-- ITS FALSE NEIGHBOUR: 'it returns false'. Refute it at one input. -/
def clipEndsWrong : ChangeSpec := { name := "clipEnds", fn := fun _ => fun
  | [d1, d2] => { results := [.lit (.bool false)], args := [d1, d2] }
  | _ => none }
def ClipEndsWrongFalsely : Prop := clipEndsRow.holds Try.pinned (OpenSpec.ofChange clipEndsWrong)

/-- 'belvederelaw22.ClipOne': WHATEVER THE INPUT: true; the input reads as it did. -/
def clipOneSpec : ChangeSpec := { name := "clipOne", fn := fun _ => fun
  | [d1, d2] => { results := [.lit (.bool true)], args := [d1, d2] }
  | _ => none }
def clipOneRow : OpenClaim := { program := "ythegdcodjhbonaa", sum := "fa093e0e0455d636d702bdb006f4ab7beda3ee3e7dd54b24f628153c65cf9ad0", func := "belvedere/belvederelaw22.ClipOne", spec := "clipOne", inPlace := ["internal/bytealg.abigen_runtime_cmpstring", "math/bits.Add64"], unfollowed := true, recurses := true, apart := false }
def ClipOneSaid : Prop := clipOneRow.holds Try.pinned (OpenSpec.ofChange clipOneSpec)

/-- ITS FALSE NEIGHBOUR: 'it returns false'. Refute it at one input. -/
def clipOneWrong : ChangeSpec := { name := "clipOne", fn := fun _ => fun
  | [d1, d2] => { results := [.lit (.bool false)], args := [d1, d2] }
  | _ => none }
def ClipOneWrongFalsely : Prop := clipOneRow.holds Try.pinned (OpenSpec.ofChange clipOneWrong)

/-- 'belvederelaw22.ClipGrows': WHATEVER THE INPUT: true; the input reads as it did. -/
def clipGrowsSpec : ChangeSpec := { name := "clipGrows", fn := fun _ => fun
  | [d1, d2] => { results := [.lit (.bool true)], args := [d1, d2] }
  | _ => none }
def clipGrowsRow : OpenClaim := { program := "ythegdcodjhbonaa", sum := "fa093e0e0455d636d702bdb006f4ab7beda3ee3e7dd54b24f628153c65cf9ad0", func := "belvedere/belvederelaw22.ClipGrows", spec := "clipGrows", inPlace := ["internal/bytealg.abigen_runtime_cmpstring", "math/bits.Add64"], unfollowed := true, recurses := true, apart := false }
def ClipGrowsSaid : Prop := clipGrowsRow.holds Try.pinned (OpenSpec.ofChange clipGrowsSpec)

/-- ITS FALSE NEIGHBOUR: 'it returns false'. Refute it at one input. -/
def clipGrowsWrong : ChangeSpec := { name := "clipGrows", fn := fun _ => fun
  | [d1, d2] => { results := [.lit (.bool false)], args := [d1, d2] }
  | _ => none }
def ClipGrowsWrongFalsely : Prop := clipGrowsRow.holds Try.pinned (OpenSpec.ofChange clipGrowsWrong)

/- THE SECOND FORM. 'bulk': how many values and letters a reading holds, each counted each time it is reached (what is shared counts as often as it is met; a slice's spare places count too). A statement '..UptoSaid' is the law's where the arguments, and the package variables that the reading takes, are together of bulk at most 1048576: NARROWER than '..Said'. Prove '..Said' where nothing that the law and all that it calls make is longer than what came in: it says more and counts as full. Else prove '..UptoSaid'. A law counts once. -/
mutual
def uptoBulk {H : Type} : DataW H → Nat
  | .lit (.string bytes) => bytes.length + 1
  | .lit _ => 1
  | .nil => 1
  | .ptr d => uptoBulk d + 1
  | .slice elems spare => uptoBulkAll elems + uptoBulkAll spare + 1
  | .agg parts => uptoBulkAll parts + 1
  | .iface _ d => uptoBulk d + 1
  | .map entries => uptoBulkEntries entries + 1
  | .held _ => 1
def uptoBulkAll {H : Type} : List (DataW H) → Nat
  | [] => 0
  | d :: r => uptoBulk d + uptoBulkAll r
def uptoBulkEntries {H : Type} : List (Lit × DataW H) → Nat
  | [] => 0
  | x :: r => uptoBulkEntry x + uptoBulkEntries r
def uptoBulkEntry {H : Type} : Lit × DataW H → Nat
  | (.string bytes, d) => bytes.length + uptoBulk d + 1
  | (_, d) => uptoBulk d + 1
 end
def uptoSmall : (H : Type) → List (DataW H) → Bool := fun _ ds => decide (uptoBulkAll ds ≤ 1048576)
def OpenSpec.upto (s : _root_.Go.ChangeSpec) : _root_.Go.OpenSpec := { _root_.Go.OpenSpec.ofChange s with cond := some uptoSmall }

/-- 'belvederelaw13.OnceSums', WHERE WHAT IT READS IS OF BULK AT MOST 1048576: true; the input reads as it did. -/
def onceSumsUptoRow : OpenClaim := { program := "ythegdcodjhbonaa", sum := "fa093e0e0455d636d702bdb006f4ab7beda3ee3e7dd54b24f628153c65cf9ad0", func := "belvedere/belvederelaw13.OnceSums", spec := "onceSums", inPlace := ["math/bits.Add64"], apart := false, narrowed := true }
def OnceSumsUptoSaid : Prop := onceSumsUptoRow.holds Try.pinned (OpenSpec.upto onceSumsSpec)

/-- 'belvederelaw4.SliceOwn', WHERE WHAT IT READS IS OF BULK AT MOST 1048576: true; the input reads as it did. -/
def sliceOwnUptoRow : OpenClaim := { program := "ythegdcodjhbonaa", sum := "fa093e0e0455d636d702bdb006f4ab7beda3ee3e7dd54b24f628153c65cf9ad0", func := "belvedere/belvederelaw4.SliceOwn", spec := "sliceOwn", inPlace := ["internal/bytealg.abigen_runtime_cmpstring", "math/bits.Add64"], unfollowed := true, recurses := true, apart := false, narrowed := true }
def SliceOwnUptoSaid : Prop := sliceOwnUptoRow.holds Try.pinned (OpenSpec.upto sliceOwnSpec)

/-- 'belvederelaw4.SliceChunks', WHERE WHAT IT READS IS OF BULK AT MOST 1048576: true; the input reads as it did. -/
def sliceChunksUptoRow : OpenClaim := { program := "ythegdcodjhbonaa", sum := "fa093e0e0455d636d702bdb006f4ab7beda3ee3e7dd54b24f628153c65cf9ad0", func := "belvedere/belvederelaw4.SliceChunks", spec := "sliceChunks", inPlace := ["internal/bytealg.abigen_runtime_cmpstring", "math/bits.Add64"], unfollowed := true, recurses := true, apart := false, narrowed := true }
def SliceChunksUptoSaid : Prop := sliceChunksUptoRow.holds Try.pinned (OpenSpec.upto sliceChunksSpec)

/-- 'belvederelaw4.SliceSays', WHERE WHAT IT READS IS OF BULK AT MOST 1048576: true; the input reads as it did. -/
def sliceSaysUptoRow : OpenClaim := { program := "ythegdcodjhbonaa", sum := "fa093e0e0455d636d702bdb006f4ab7beda3ee3e7dd54b24f628153c65cf9ad0", func := "belvedere/belvederelaw4.SliceSays", spec := "sliceSays", inPlace := ["internal/bytealg.abigen_runtime_cmpstring", "math/bits.Add64"], unfollowed := true, recurses := true, apart := false, narrowed := true }
def SliceSaysUptoSaid : Prop := sliceSaysUptoRow.holds Try.pinned (OpenSpec.upto sliceSaysSpec)

/-- 'belvederelaw4.SliceParts', WHERE WHAT IT READS IS OF BULK AT MOST 1048576: true; the input reads as it did. -/
def slicePartsUptoRow : OpenClaim := { program := "ythegdcodjhbonaa", sum := "fa093e0e0455d636d702bdb006f4ab7beda3ee3e7dd54b24f628153c65cf9ad0", func := "belvedere/belvederelaw4.SliceParts", spec := "sliceParts", inPlace := ["internal/bytealg.abigen_runtime_cmpstring", "math/bits.Add64"], unfollowed := true, recurses := true, apart := false, narrowed := true }
def SlicePartsUptoSaid : Prop := slicePartsUptoRow.holds Try.pinned (OpenSpec.upto slicePartsSpec)

/-- 'belvederelaw22.ClipPlays', WHERE WHAT IT READS IS OF BULK AT MOST 1048576: true; the input reads as it did. -/
def clipPlaysUptoRow : OpenClaim := { program := "ythegdcodjhbonaa", sum := "fa093e0e0455d636d702bdb006f4ab7beda3ee3e7dd54b24f628153c65cf9ad0", func := "belvedere/belvederelaw22.ClipPlays", spec := "clipPlays", inPlace := ["internal/bytealg.abigen_runtime_cmpstring", "math/bits.Add64"], unfollowed := true, recurses := true, apart := false, narrowed := true }
def ClipPlaysUptoSaid : Prop := clipPlaysUptoRow.holds Try.pinned (OpenSpec.upto clipPlaysSpec)

/-- 'belvederelaw22.ClipEnds', WHERE WHAT IT READS IS OF BULK AT MOST 1048576: true; the input reads as it did. -/
def clipEndsUptoRow : OpenClaim := { program := "ythegdcodjhbonaa", sum := "fa093e0e0455d636d702bdb006f4ab7beda3ee3e7dd54b24f628153c65cf9ad0", func := "belvedere/belvederelaw22.ClipEnds", spec := "clipEnds", inPlace := ["internal/bytealg.abigen_runtime_cmpstring", "math/bits.Add64"], unfollowed := true, recurses := true, apart := false, narrowed := true }
def ClipEndsUptoSaid : Prop := clipEndsUptoRow.holds Try.pinned (OpenSpec.upto clipEndsSpec)

/-- 'belvederelaw22.ClipOne', WHERE WHAT IT READS IS OF BULK AT MOST 1048576: true; the input reads as it did. -/
def clipOneUptoRow : OpenClaim := { program := "ythegdcodjhbonaa", sum := "fa093e0e0455d636d702bdb006f4ab7beda3ee3e7dd54b24f628153c65cf9ad0", func := "belvedere/belvederelaw22.ClipOne", spec := "clipOne", inPlace := ["internal/bytealg.abigen_runtime_cmpstring", "math/bits.Add64"], unfollowed := true, recurses := true, apart := false, narrowed := true }
def ClipOneUptoSaid : Prop := clipOneUptoRow.holds Try.pinned (OpenSpec.upto clipOneSpec)

/-- 'belvederelaw22.ClipGrows', WHERE WHAT IT READS IS OF BULK AT MOST 1048576: true; the input reads as it did. -/
def clipGrowsUptoRow : OpenClaim := { program := "ythegdcodjhbonaa", sum := "fa093e0e0455d636d702bdb006f4ab7beda3ee3e7dd54b24f628153c65cf9ad0", func := "belvedere/belvederelaw22.ClipGrows", spec := "clipGrows", inPlace := ["internal/bytealg.abigen_runtime_cmpstring", "math/bits.Add64"], unfollowed := true, recurses := true, apart := false, narrowed := true }
def ClipGrowsUptoSaid : Prop := clipGrowsUptoRow.holds Try.pinned (OpenSpec.upto clipGrowsSpec)

end Rows
end Go.Proofs.Ythegdcodjhbonaa
