/-
  No cell of these rows narrows 'for every input' (looked for: loops, veiled, ifaces, maps, wideKeys, modest, calm, conditions, laid).
  DERIVED. THE GIVEN ROWS OF THIS SEAT. 6 by the template 'for every input the law returns true; each argument reads behind the call as it read before'; 0 by the template 'total and deterministic' (their statements: YtnldnaogbadajaaTotals.lean).
  GIVEN WITH THE SEED: the statements are not yours to turn. If you find one false, say at which input.
  Laid BY PROGRAM, IN A SANDBOX (cutbox-rows.mjs): the forced cells as the released guide's own fill.sh prints them over the translation d615f16a2b36e597… (all of the seat's roots in one cut). By AI agents, Wed Nov 11 2026. No macro, syntax, notation, axiom, sorry.
-/
import Derived.Test.YtnldnaogbadajaaChecked
import GoSem.Claim
import GoSem.ClaimJoined
import GoSem.ClaimMapViews
import Derived.JoinedTies
import Derived.KernelRfl
namespace Go.Proofs.Ytnldnaogbadajaa
/- THE CELL 'sum', in the pinned program and in every row, IS THE sha256 OF THE DUMP (.gsa) THAT YtnldnaogbadajaaProg.lean LOADS. Nothing in Lean hashes anything: it is a label: what it is worth is what the hold of that sum in a sandbox is worth. -/
noncomputable def Try.pinned : Pinned := { name := "ytnldnaogbadajaa", sum := "d615f16a2b36e5979131c874a01f5251639847d473c7de66d1b01289b83f3d66", checked := Try.checked }
namespace Rows
def none {H : Type} : Left H := { results := [], args := [] }

/-- 'corporalaw16.TokensBuilds': WHATEVER THE INPUT: true; the input reads as it did. -/
def tokensBuildsSpec : ChangeSpec := { name := "tokensBuilds", fn := fun _ => fun
  | [d] => { results := [.lit (.bool true)], args := [d] }
  | _ => none }
def tokensBuildsRow : OpenClaim := { program := "ytnldnaogbadajaa", sum := "d615f16a2b36e5979131c874a01f5251639847d473c7de66d1b01289b83f3d66", func := "corpora/corporalaw16.TokensBuilds", spec := "tokensBuilds", unfollowed := true, recurses := true, apart := false }
def TokensBuildsSaid : Prop := tokensBuildsRow.holds Try.pinned (OpenSpec.ofChange tokensBuildsSpec)

/-- ITS FALSE NEIGHBOUR: 'it returns false'. Refute it at one input. -/
def tokensBuildsWrong : ChangeSpec := { name := "tokensBuilds", fn := fun _ => fun
  | [d] => { results := [.lit (.bool false)], args := [d] }
  | _ => none }
def TokensBuildsWrongFalsely : Prop := tokensBuildsRow.holds Try.pinned (OpenSpec.ofChange tokensBuildsWrong)

/-- 'corporalaw16.TokensReads': WHATEVER THE INPUT: true; the input reads as it did. -/
def tokensReadsSpec : ChangeSpec := { name := "tokensReads", fn := fun _ => fun
  | [d1, d2] => { results := [.lit (.bool true)], args := [d1, d2] }
  | _ => none }
def tokensReadsRow : OpenClaim := { program := "ytnldnaogbadajaa", sum := "d615f16a2b36e5979131c874a01f5251639847d473c7de66d1b01289b83f3d66", func := "corpora/corporalaw16.TokensReads", spec := "tokensReads", unfollowed := true, recurses := true, apart := false }
def TokensReadsSaid : Prop := tokensReadsRow.holds Try.pinned (OpenSpec.ofChange tokensReadsSpec)

/-- ITS FALSE NEIGHBOUR: 'it returns false'. Refute it at one input. -/
def tokensReadsWrong : ChangeSpec := { name := "tokensReads", fn := fun _ => fun
  | [d1, d2] => { results := [.lit (.bool false)], args := [d1, d2] }
  | _ => none }
def TokensReadsWrongFalsely : Prop := tokensReadsRow.holds Try.pinned (OpenSpec.ofChange tokensReadsWrong)

/-- 'corporalaw16.TokensLimits': WHATEVER THE INPUT: true; the input reads as it did. -/
def tokensLimitsSpec : ChangeSpec := { name := "tokensLimits", fn := fun _ => fun
  | [d1, d2] => { results := [.lit (.bool true)], args := [d1, d2] }
  | _ => none }
def tokensLimitsRow : OpenClaim := { program := "ytnldnaogbadajaa", sum := "d615f16a2b36e5979131c874a01f5251639847d473c7de66d1b01289b83f3d66", func := "corpora/corporalaw16.TokensLimits", spec := "tokensLimits", unfollowed := true, recurses := true, apart := false }
def TokensLimitsSaid : Prop := tokensLimitsRow.holds Try.pinned (OpenSpec.ofChange tokensLimitsSpec)

/-- ITS FALSE NEIGHBOUR: 'it returns false'. Refute it at one input. -/
def tokensLimitsWrong : ChangeSpec := { name := "tokensLimits", fn := fun _ => fun
  | [d1, d2] => { results := [.lit (.bool false)], args := [d1, d2] }
  | _ => none }
def TokensLimitsWrongFalsely : Prop := tokensLimitsRow.holds Try.pinned (OpenSpec.ofChange tokensLimitsWrong)

/-- 'corporalaw16.TokensSlices': WHATEVER THE INPUT: true; the input reads as it did. -/
def tokensSlicesSpec : ChangeSpec := { name := "tokensSlices", fn := fun _ => fun
  | [d1, d2, d3] => { results := [.lit (.bool true)], args := [d1, d2, d3] }
  | _ => none }
def tokensSlicesRow : OpenClaim := { program := "ytnldnaogbadajaa", sum := "d615f16a2b36e5979131c874a01f5251639847d473c7de66d1b01289b83f3d66", func := "corpora/corporalaw16.TokensSlices", spec := "tokensSlices", unfollowed := true, recurses := true, apart := false }
def TokensSlicesSaid : Prop := tokensSlicesRow.holds Try.pinned (OpenSpec.ofChange tokensSlicesSpec)

/-- ITS FALSE NEIGHBOUR: 'it returns false'. Refute it at one input. -/
def tokensSlicesWrong : ChangeSpec := { name := "tokensSlices", fn := fun _ => fun
  | [d1, d2, d3] => { results := [.lit (.bool false)], args := [d1, d2, d3] }
  | _ => none }
def TokensSlicesWrongFalsely : Prop := tokensSlicesRow.holds Try.pinned (OpenSpec.ofChange tokensSlicesWrong)

/-- 'corporalaw16.TokensParts': WHATEVER THE INPUT: true; the input reads as it did. -/
def tokensPartsSpec : ChangeSpec := { name := "tokensParts", fn := fun _ => fun
  | [d1, d2] => { results := [.lit (.bool true)], args := [d1, d2] }
  | _ => none }
def tokensPartsRow : OpenClaim := { program := "ytnldnaogbadajaa", sum := "d615f16a2b36e5979131c874a01f5251639847d473c7de66d1b01289b83f3d66", func := "corpora/corporalaw16.TokensParts", spec := "tokensParts", unfollowed := true, recurses := true, apart := false }
def TokensPartsSaid : Prop := tokensPartsRow.holds Try.pinned (OpenSpec.ofChange tokensPartsSpec)

/-- ITS FALSE NEIGHBOUR: 'it returns false'. Refute it at one input. -/
def tokensPartsWrong : ChangeSpec := { name := "tokensParts", fn := fun _ => fun
  | [d1, d2] => { results := [.lit (.bool false)], args := [d1, d2] }
  | _ => none }
def TokensPartsWrongFalsely : Prop := tokensPartsRow.holds Try.pinned (OpenSpec.ofChange tokensPartsWrong)

/-- 'corporalaw16.TokensEncodes': WHATEVER THE INPUT: true; the input reads as it did. -/
def tokensEncodesSpec : ChangeSpec := { name := "tokensEncodes", fn := fun _ => fun
  | [d] => { results := [.lit (.bool true)], args := [d] }
  | _ => none }
def tokensEncodesRow : OpenClaim := { program := "ytnldnaogbadajaa", sum := "d615f16a2b36e5979131c874a01f5251639847d473c7de66d1b01289b83f3d66", func := "corpora/corporalaw16.TokensEncodes", spec := "tokensEncodes", unfollowed := true, recurses := true, apart := false }
def TokensEncodesSaid : Prop := tokensEncodesRow.holds Try.pinned (OpenSpec.ofChange tokensEncodesSpec)

/-- ITS FALSE NEIGHBOUR: 'it returns false'. Refute it at one input. -/
def tokensEncodesWrong : ChangeSpec := { name := "tokensEncodes", fn := fun _ => fun
  | [d] => { results := [.lit (.bool false)], args := [d] }
  | _ => none }
def TokensEncodesWrongFalsely : Prop := tokensEncodesRow.holds Try.pinned (OpenSpec.ofChange tokensEncodesWrong)

/- THE SECOND FORM. 'bulk': how many values and letters a reading holds, each counted each time it is reached (what is shared counts as often as it is met; a slice's spare places count too). A statement '..UptoSaid' is the law's where the arguments, and the package variables that the reading takes, are together of bulk at most 1048576: NARROWER than '..Said'. Prove '..Said' where nothing that the law and all that it calls make is longer than what came in: it says more and counts as full. Else prove '..UptoSaid'. A law counts once. -/
mutual
def uptoBulk {H : Type} : DataW H → Nat
  | .lit (.string bytes) => bytes.length + 1
  | .lit _ => 1
  | .nil => 1
  | .ptr d => uptoBulk d + 1
  | .slice elems spare => uptoBulkAll elems + uptoBulkAll spare + 1
  | .agg parts => uptoBulkAll parts + 1
  | .iface _ d => uptoBulk d + 1
  | .map entries => uptoBulkEntries entries + 1
  | .held _ => 1
def uptoBulkAll {H : Type} : List (DataW H) → Nat
  | [] => 0
  | d :: r => uptoBulk d + uptoBulkAll r
def uptoBulkEntries {H : Type} : List (Lit × DataW H) → Nat
  | [] => 0
  | x :: r => uptoBulkEntry x + uptoBulkEntries r
def uptoBulkEntry {H : Type} : Lit × DataW H → Nat
  | (.string bytes, d) => bytes.length + uptoBulk d + 1
  | (_, d) => uptoBulk d + 1
 end
def uptoSmall : (H : Type) → List (DataW H) → Bool := fun _ ds => decide (uptoBulkAll ds ≤ 1048576)
def OpenSpec.upto (s : _root_.Go.ChangeSpec) : _root_.Go.OpenSpec := { _root_.Go.OpenSpec.ofChange s with cond := some uptoSmall }

/-- 'corporalaw16.TokensBuilds', WHERE WHAT IT READS IS OF BULK AT MOST 1048576: true; the input reads as it did. -/
def tokensBuildsUptoRow : OpenClaim := { program := "ytnldnaogbadajaa", sum := "d615f16a2b36e5979131c874a01f5251639847d473c7de66d1b01289b83f3d66", func := "corpora/corporalaw16.TokensBuilds", spec := "tokensBuilds", unfollowed := true, recurses := true, apart := false, narrowed := true }
def TokensBuildsUptoSaid : Prop := tokensBuildsUptoRow.holds Try.pinned (OpenSpec.upto tokensBuildsSpec)

/-- 'corporalaw16.TokensReads', WHERE WHAT IT READS IS OF BULK AT MOST 1048576: true; the input reads as it did. -/
def tokensReadsUptoRow : OpenClaim := { program := "ytnldnaogbadajaa", sum := "d615f16a2b36e5979131c874a01f5251639847d473c7de66d1b01289b83f3d66", func := "corpora/corporalaw16.TokensReads", spec := "tokensReads", unfollowed := true, recurses := true, apart := false, narrowed := true }
def TokensReadsUptoSaid : Prop := tokensReadsUptoRow.holds Try.pinned (OpenSpec.upto tokensReadsSpec)

/-- 'corporalaw16.TokensLimits', WHERE WHAT IT READS IS OF BULK AT MOST 1048576: true; the input reads as it did. -/
def tokensLimitsUptoRow : OpenClaim := { program := "ytnldnaogbadajaa", sum := "d615f16a2b36e5979131c874a01f5251639847d473c7de66d1b01289b83f3d66", func := "corpora/corporalaw16.TokensLimits", spec := "tokensLimits", unfollowed := true, recurses := true, apart := false, narrowed := true }
def TokensLimitsUptoSaid : Prop := tokensLimitsUptoRow.holds Try.pinned (OpenSpec.upto tokensLimitsSpec)

/-- 'corporalaw16.TokensSlices', WHERE WHAT IT READS IS OF BULK AT MOST 1048576: true; the input reads as it did. -/
def tokensSlicesUptoRow : OpenClaim := { program := "ytnldnaogbadajaa", sum := "d615f16a2b36e5979131c874a01f5251639847d473c7de66d1b01289b83f3d66", func := "corpora/corporalaw16.TokensSlices", spec := "tokensSlices", unfollowed := true, recurses := true, apart := false, narrowed := true }
def TokensSlicesUptoSaid : Prop := tokensSlicesUptoRow.holds Try.pinned (OpenSpec.upto tokensSlicesSpec)

/-- 'corporalaw16.TokensParts', WHERE WHAT IT READS IS OF BULK AT MOST 1048576: true; the input reads as it did. -/
def tokensPartsUptoRow : OpenClaim := { program := "ytnldnaogbadajaa", sum := "d615f16a2b36e5979131c874a01f5251639847d473c7de66d1b01289b83f3d66", func := "corpora/corporalaw16.TokensParts", spec := "tokensParts", unfollowed := true, recurses := true, apart := false, narrowed := true }
def TokensPartsUptoSaid : Prop := tokensPartsUptoRow.holds Try.pinned (OpenSpec.upto tokensPartsSpec)

/-- 'corporalaw16.TokensEncodes', WHERE WHAT IT READS IS OF BULK AT MOST 1048576: true; the input reads as it did. -/
def tokensEncodesUptoRow : OpenClaim := { program := "ytnldnaogbadajaa", sum := "d615f16a2b36e5979131c874a01f5251639847d473c7de66d1b01289b83f3d66", func := "corpora/corporalaw16.TokensEncodes", spec := "tokensEncodes", unfollowed := true, recurses := true, apart := false, narrowed := true }
def TokensEncodesUptoSaid : Prop := tokensEncodesUptoRow.holds Try.pinned (OpenSpec.upto tokensEncodesSpec)

end Rows
end Go.Proofs.Ytnldnaogbadajaa
