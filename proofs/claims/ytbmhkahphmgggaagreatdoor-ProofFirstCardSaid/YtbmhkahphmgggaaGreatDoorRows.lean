/-
  NARROWER THAN 'FOR EVERY INPUT', by the rows' own cells (each row's printed sentence says how): ProofDerives: loops, laid · ProofChecks: loops, laid · ProofSound: loops, laid · ProofUnique: loops, laid · ProofFirst: loops, laid · ProofPrefix: loops, laid · ProofTampers: loops, laid.
  DERIVED. THE GIVEN ROWS OF THIS SEAT. 7 by the template 'for every input the law returns true; each argument reads behind the call as it read before'; 0 by the template 'total and deterministic' (their statements: YtbmhkahphmgggaaGreatDoorTotals.lean).
  GIVEN WITH THE SEED: the statements are not yours to turn. If you find one false, say at which input.
  Laid BY PROGRAM, IN A SANDBOX (cutbox-rows.mjs): the forced cells as the released guide's own fill.sh prints them over the translation 666bf141334c94cb… (all of the seat's roots in one cut). By AI agents, Wed Nov 11 2026. No macro, syntax, notation, axiom, sorry.
-/
import Derived.Test.YtbmhkahphmgggaaGreatDoorChecked
import GoSem.PinnedTables
import GoSem.Claim
import GoSem.ClaimJoined
import GoSem.ClaimMapViews
import Derived.JoinedTies
import Derived.KernelRfl
namespace Go.Proofs.YtbmhkahphmgggaaGreatDoor
/- THE CELL 'sum', in the pinned program and in every row, IS THE sha256 OF THE DUMP (.gsa) THAT YtbmhkahphmgggaaGreatDoorProg.lean LOADS. Nothing in Lean hashes anything: it is a label: what it is worth is what the hold of that sum in a sandbox is worth. -/
noncomputable def Tryz.pinned : Pinned := { name := "ytbmhkahphmgggaagreatdoor", sum := "666bf141334c94cb433e6b0a46664fcf1161034065586ec012e385f5c76ca52c", checked := Tryz.checked }
namespace Rows
def none {H : Type} : Left H := { results := [], args := [] }

/- WHAT THE LISTED PACKAGE-LEVEL VARIABLES READ AS WHEN THE CALL BEGINS. Each datum BY PROGRAM (the guide's laid-datum.mjs) off the statement by which the dump's own 'gosem.cut.vars' lays the variable. In a bare row this is a premise. The card (YtbmhkahphmgggaaGreatDoorCards.lean) ties it to the program's text. -/
def laid_unicode_utf8_acceptRanges {H : Type} : DataW H := .agg [.agg [.lit (.int .u8 128), .lit (.int .u8 191)], .agg [.lit (.int .u8 160), .lit (.int .u8 191)], .agg [.lit (.int .u8 128), .lit (.int .u8 159)], .agg [.lit (.int .u8 144), .lit (.int .u8 191)], .agg [.lit (.int .u8 128), .lit (.int .u8 143)], .agg [.lit (.int .u8 0), .lit (.int .u8 0)], .agg [.lit (.int .u8 0), .lit (.int .u8 0)], .agg [.lit (.int .u8 0), .lit (.int .u8 0)], .agg [.lit (.int .u8 0), .lit (.int .u8 0)], .agg [.lit (.int .u8 0), .lit (.int .u8 0)], .agg [.lit (.int .u8 0), .lit (.int .u8 0)], .agg [.lit (.int .u8 0), .lit (.int .u8 0)], .agg [.lit (.int .u8 0), .lit (.int .u8 0)], .agg [.lit (.int .u8 0), .lit (.int .u8 0)], .agg [.lit (.int .u8 0), .lit (.int .u8 0)], .agg [.lit (.int .u8 0), .lit (.int .u8 0)]]
/-- One of Go's own tables, pinned by name: the form's constant. -/
def laid_unicode_utf8_first : DataW Unit := Go.Pinned.utf8First

/-- 'modcertlaw36.ProofDerives': WHATEVER THE INPUT: true; the input reads as it did. -/
def proofDerivesSpec : ChangeSpec := { name := "proofDerives", fn := fun _ => fun
  | [d1, d2, d3] => { results := [.lit (.bool true)], args := [d1, d2, d3] }
  | _ => none }
def proofDerivesRow : OpenClaim := { program := "ytbmhkahphmgggaagreatdoor", sum := "666bf141334c94cb433e6b0a46664fcf1161034065586ec012e385f5c76ca52c", func := "modcert/modcertlaw36.ProofDerives", spec := "proofDerives", inPlace := ["internal/bytealg.CountString", "internal/bytealg.IndexByteString", "internal/bytealg.IndexString", "internal/bytealg.abigen_runtime_cmpstring"], unfollowed := true, recurses := true, named := ["unicode/utf8.first", "unicode/utf8.acceptRanges", "internal/bytealg.MaxLen"], loops := true, plainKeys := false, apart := false, laid := [("unicode/utf8.acceptRanges", laid_unicode_utf8_acceptRanges), ("unicode/utf8.first", laid_unicode_utf8_first)] }
def ProofDerivesSaid : Prop := proofDerivesRow.holds Tryz.pinned (OpenSpec.ofChange proofDerivesSpec)

/-- ITS FALSE NEIGHBOUR: 'it returns false'. Refute it at one input. -/
def proofDerivesWrong : ChangeSpec := { name := "proofDerives", fn := fun _ => fun
  | [d1, d2, d3] => { results := [.lit (.bool false)], args := [d1, d2, d3] }
  | _ => none }
def ProofDerivesWrongFalsely : Prop := proofDerivesRow.holds Tryz.pinned (OpenSpec.ofChange proofDerivesWrong)

/-- 'modcertlaw36.ProofChecks': WHATEVER THE INPUT: true; the input reads as it did. -/
def proofChecksSpec : ChangeSpec := { name := "proofChecks", fn := fun _ => fun
  | [d1, d2, d3, d4] => { results := [.lit (.bool true)], args := [d1, d2, d3, d4] }
  | _ => none }
def proofChecksRow : OpenClaim := { program := "ytbmhkahphmgggaagreatdoor", sum := "666bf141334c94cb433e6b0a46664fcf1161034065586ec012e385f5c76ca52c", func := "modcert/modcertlaw36.ProofChecks", spec := "proofChecks", inPlace := ["internal/bytealg.CountString", "internal/bytealg.IndexByteString", "internal/bytealg.IndexString", "internal/bytealg.abigen_runtime_cmpstring"], unfollowed := true, recurses := true, named := ["unicode/utf8.first", "unicode/utf8.acceptRanges", "internal/bytealg.MaxLen"], loops := true, plainKeys := false, apart := false, laid := [("unicode/utf8.acceptRanges", laid_unicode_utf8_acceptRanges), ("unicode/utf8.first", laid_unicode_utf8_first)] }
def ProofChecksSaid : Prop := proofChecksRow.holds Tryz.pinned (OpenSpec.ofChange proofChecksSpec)

/-- ITS FALSE NEIGHBOUR: 'it returns false'. Refute it at one input. -/
def proofChecksWrong : ChangeSpec := { name := "proofChecks", fn := fun _ => fun
  | [d1, d2, d3, d4] => { results := [.lit (.bool false)], args := [d1, d2, d3, d4] }
  | _ => none }
def ProofChecksWrongFalsely : Prop := proofChecksRow.holds Tryz.pinned (OpenSpec.ofChange proofChecksWrong)

/-- 'modcertlaw36.ProofSound': WHATEVER THE INPUT: true; the input reads as it did. -/
def proofSoundSpec : ChangeSpec := { name := "proofSound", fn := fun _ => fun
  | [d1, d2, d3, d4] => { results := [.lit (.bool true)], args := [d1, d2, d3, d4] }
  | _ => none }
def proofSoundRow : OpenClaim := { program := "ytbmhkahphmgggaagreatdoor", sum := "666bf141334c94cb433e6b0a46664fcf1161034065586ec012e385f5c76ca52c", func := "modcert/modcertlaw36.ProofSound", spec := "proofSound", inPlace := ["internal/bytealg.CountString", "internal/bytealg.IndexByteString", "internal/bytealg.IndexString", "internal/bytealg.abigen_runtime_cmpstring"], unfollowed := true, recurses := true, named := ["unicode/utf8.first", "unicode/utf8.acceptRanges", "internal/bytealg.MaxLen"], loops := true, plainKeys := false, apart := false, laid := [("unicode/utf8.acceptRanges", laid_unicode_utf8_acceptRanges), ("unicode/utf8.first", laid_unicode_utf8_first)] }
def ProofSoundSaid : Prop := proofSoundRow.holds Tryz.pinned (OpenSpec.ofChange proofSoundSpec)

/-- ITS FALSE NEIGHBOUR: 'it returns false'. Refute it at one input. -/
def proofSoundWrong : ChangeSpec := { name := "proofSound", fn := fun _ => fun
  | [d1, d2, d3, d4] => { results := [.lit (.bool false)], args := [d1, d2, d3, d4] }
  | _ => none }
def ProofSoundWrongFalsely : Prop := proofSoundRow.holds Tryz.pinned (OpenSpec.ofChange proofSoundWrong)

/-- 'modcertlaw36.ProofUnique': WHATEVER THE INPUT: true; the input reads as it did. -/
def proofUniqueSpec : ChangeSpec := { name := "proofUnique", fn := fun _ => fun
  | [d1, d2, d3, d4] => { results := [.lit (.bool true)], args := [d1, d2, d3, d4] }
  | _ => none }
def proofUniqueRow : OpenClaim := { program := "ytbmhkahphmgggaagreatdoor", sum := "666bf141334c94cb433e6b0a46664fcf1161034065586ec012e385f5c76ca52c", func := "modcert/modcertlaw36.ProofUnique", spec := "proofUnique", inPlace := ["internal/bytealg.CountString", "internal/bytealg.IndexByteString", "internal/bytealg.IndexString", "internal/bytealg.abigen_runtime_cmpstring"], unfollowed := true, recurses := true, named := ["unicode/utf8.first", "unicode/utf8.acceptRanges", "internal/bytealg.MaxLen"], loops := true, plainKeys := false, apart := false, laid := [("unicode/utf8.acceptRanges", laid_unicode_utf8_acceptRanges), ("unicode/utf8.first", laid_unicode_utf8_first)] }
def ProofUniqueSaid : Prop := proofUniqueRow.holds Tryz.pinned (OpenSpec.ofChange proofUniqueSpec)

/-- ITS FALSE NEIGHBOUR: 'it returns false'. Refute it at one input. -/
def proofUniqueWrong : ChangeSpec := { name := "proofUnique", fn := fun _ => fun
  | [d1, d2, d3, d4] => { results := [.lit (.bool false)], args := [d1, d2, d3, d4] }
  | _ => none }
def ProofUniqueWrongFalsely : Prop := proofUniqueRow.holds Tryz.pinned (OpenSpec.ofChange proofUniqueWrong)

/-- 'modcertlaw36.ProofFirst': WHATEVER THE INPUT: true; the input reads as it did. -/
def proofFirstSpec : ChangeSpec := { name := "proofFirst", fn := fun _ => fun
  | [d1, d2, d3, d4] => { results := [.lit (.bool true)], args := [d1, d2, d3, d4] }
  | _ => none }
def proofFirstRow : OpenClaim := { program := "ytbmhkahphmgggaagreatdoor", sum := "666bf141334c94cb433e6b0a46664fcf1161034065586ec012e385f5c76ca52c", func := "modcert/modcertlaw36.ProofFirst", spec := "proofFirst", inPlace := ["internal/bytealg.CountString", "internal/bytealg.IndexByteString", "internal/bytealg.IndexString", "internal/bytealg.abigen_runtime_cmpstring"], unfollowed := true, recurses := true, named := ["unicode/utf8.first", "unicode/utf8.acceptRanges", "internal/bytealg.MaxLen"], loops := true, plainKeys := false, apart := false, laid := [("unicode/utf8.acceptRanges", laid_unicode_utf8_acceptRanges), ("unicode/utf8.first", laid_unicode_utf8_first)] }
def ProofFirstSaid : Prop := proofFirstRow.holds Tryz.pinned (OpenSpec.ofChange proofFirstSpec)

/-- ITS FALSE NEIGHBOUR: 'it returns false'. Refute it at one input. -/
def proofFirstWrong : ChangeSpec := { name := "proofFirst", fn := fun _ => fun
  | [d1, d2, d3, d4] => { results := [.lit (.bool false)], args := [d1, d2, d3, d4] }
  | _ => none }
def ProofFirstWrongFalsely : Prop := proofFirstRow.holds Tryz.pinned (OpenSpec.ofChange proofFirstWrong)

/-- 'modcertlaw36.ProofPrefix': WHATEVER THE INPUT: true; the input reads as it did. -/
def proofPrefixSpec : ChangeSpec := { name := "proofPrefix", fn := fun _ => fun
  | [d1, d2, d3, d4] => { results := [.lit (.bool true)], args := [d1, d2, d3, d4] }
  | _ => none }
def proofPrefixRow : OpenClaim := { program := "ytbmhkahphmgggaagreatdoor", sum := "666bf141334c94cb433e6b0a46664fcf1161034065586ec012e385f5c76ca52c", func := "modcert/modcertlaw36.ProofPrefix", spec := "proofPrefix", inPlace := ["internal/bytealg.CountString", "internal/bytealg.IndexByteString", "internal/bytealg.IndexString", "internal/bytealg.abigen_runtime_cmpstring"], unfollowed := true, recurses := true, named := ["unicode/utf8.first", "unicode/utf8.acceptRanges", "internal/bytealg.MaxLen"], loops := true, plainKeys := false, apart := false, laid := [("unicode/utf8.acceptRanges", laid_unicode_utf8_acceptRanges), ("unicode/utf8.first", laid_unicode_utf8_first)] }
def ProofPrefixSaid : Prop := proofPrefixRow.holds Tryz.pinned (OpenSpec.ofChange proofPrefixSpec)

/-- ITS FALSE NEIGHBOUR: 'it returns false'. Refute it at one input. -/
def proofPrefixWrong : ChangeSpec := { name := "proofPrefix", fn := fun _ => fun
  | [d1, d2, d3, d4] => { results := [.lit (.bool false)], args := [d1, d2, d3, d4] }
  | _ => none }
def ProofPrefixWrongFalsely : Prop := proofPrefixRow.holds Tryz.pinned (OpenSpec.ofChange proofPrefixWrong)

/-- 'modcertlaw36.ProofTampers': WHATEVER THE INPUT: true; the input reads as it did. -/
def proofTampersSpec : ChangeSpec := { name := "proofTampers", fn := fun _ => fun
  | [d1, d2, d3, d4, d5] => { results := [.lit (.bool true)], args := [d1, d2, d3, d4, d5] }
  | _ => none }
def proofTampersRow : OpenClaim := { program := "ytbmhkahphmgggaagreatdoor", sum := "666bf141334c94cb433e6b0a46664fcf1161034065586ec012e385f5c76ca52c", func := "modcert/modcertlaw36.ProofTampers", spec := "proofTampers", inPlace := ["internal/bytealg.CountString", "internal/bytealg.IndexByteString", "internal/bytealg.IndexString", "internal/bytealg.abigen_runtime_cmpstring"], unfollowed := true, recurses := true, named := ["unicode/utf8.first", "unicode/utf8.acceptRanges", "internal/bytealg.MaxLen"], loops := true, plainKeys := false, apart := false, laid := [("unicode/utf8.acceptRanges", laid_unicode_utf8_acceptRanges), ("unicode/utf8.first", laid_unicode_utf8_first)] }
def ProofTampersSaid : Prop := proofTampersRow.holds Tryz.pinned (OpenSpec.ofChange proofTampersSpec)

/-- ITS FALSE NEIGHBOUR: 'it returns false'. Refute it at one input. -/
def proofTampersWrong : ChangeSpec := { name := "proofTampers", fn := fun _ => fun
  | [d1, d2, d3, d4, d5] => { results := [.lit (.bool false)], args := [d1, d2, d3, d4, d5] }
  | _ => none }
def ProofTampersWrongFalsely : Prop := proofTampersRow.holds Tryz.pinned (OpenSpec.ofChange proofTampersWrong)

/- THE SECOND FORM. 'bulk': how many values and letters a reading holds, each counted each time it is reached (what is shared counts as often as it is met; a slice's spare places count too). A statement '..UptoSaid' is the law's where the arguments, and the package variables that the reading takes, are together of bulk at most 1048576: NARROWER than '..Said'. Prove '..Said' where nothing that the law and all that it calls make is longer than what came in: it says more and counts as full. Else prove '..UptoSaid'. A law counts once. -/
mutual
def uptoBulk {H : Type} : DataW H → Nat
  | .lit (.string bytes) => bytes.length + 1
  | .lit _ => 1
  | .nil => 1
  | .ptr d => uptoBulk d + 1
  | .slice elems spare => uptoBulkAll elems + uptoBulkAll spare + 1
  | .agg parts => uptoBulkAll parts + 1
  | .iface _ d => uptoBulk d + 1
  | .map entries => uptoBulkEntries entries + 1
  | .held _ => 1
def uptoBulkAll {H : Type} : List (DataW H) → Nat
  | [] => 0
  | d :: r => uptoBulk d + uptoBulkAll r
def uptoBulkEntries {H : Type} : List (Lit × DataW H) → Nat
  | [] => 0
  | x :: r => uptoBulkEntry x + uptoBulkEntries r
def uptoBulkEntry {H : Type} : Lit × DataW H → Nat
  | (.string bytes, d) => bytes.length + uptoBulk d + 1
  | (_, d) => uptoBulk d + 1
 end
def uptoSmall : (H : Type) → List (DataW H) → Bool := fun _ ds => decide (uptoBulkAll ds ≤ 1048576)
def OpenSpec.upto (s : _root_.Go.ChangeSpec) : _root_.Go.OpenSpec := { _root_.Go.OpenSpec.ofChange s with cond := some uptoSmall }

/-- 'modcertlaw36.ProofDerives', WHERE WHAT IT READS IS OF BULK AT MOST 1048576: true; the input reads as it did. -/
def proofDerivesUptoRow : OpenClaim := { program := "ytbmhkahphmgggaagreatdoor", sum := "666bf141334c94cb433e6b0a46664fcf1161034065586ec012e385f5c76ca52c", func := "modcert/modcertlaw36.ProofDerives", spec := "proofDerives", inPlace := ["internal/bytealg.CountString", "internal/bytealg.IndexByteString", "internal/bytealg.IndexString", "internal/bytealg.abigen_runtime_cmpstring"], unfollowed := true, recurses := true, named := ["unicode/utf8.first", "unicode/utf8.acceptRanges", "internal/bytealg.MaxLen"], loops := true, plainKeys := false, apart := false, laid := [("unicode/utf8.acceptRanges", laid_unicode_utf8_acceptRanges), ("unicode/utf8.first", laid_unicode_utf8_first)], narrowed := true }
def ProofDerivesUptoSaid : Prop := proofDerivesUptoRow.holds Tryz.pinned (OpenSpec.upto proofDerivesSpec)

/-- 'modcertlaw36.ProofChecks', WHERE WHAT IT READS IS OF BULK AT MOST 1048576: true; the input reads as it did. -/
def proofChecksUptoRow : OpenClaim := { program := "ytbmhkahphmgggaagreatdoor", sum := "666bf141334c94cb433e6b0a46664fcf1161034065586ec012e385f5c76ca52c", func := "modcert/modcertlaw36.ProofChecks", spec := "proofChecks", inPlace := ["internal/bytealg.CountString", "internal/bytealg.IndexByteString", "internal/bytealg.IndexString", "internal/bytealg.abigen_runtime_cmpstring"], unfollowed := true, recurses := true, named := ["unicode/utf8.first", "unicode/utf8.acceptRanges", "internal/bytealg.MaxLen"], loops := true, plainKeys := false, apart := false, laid := [("unicode/utf8.acceptRanges", laid_unicode_utf8_acceptRanges), ("unicode/utf8.first", laid_unicode_utf8_first)], narrowed := true }
def ProofChecksUptoSaid : Prop := proofChecksUptoRow.holds Tryz.pinned (OpenSpec.upto proofChecksSpec)

/-- 'modcertlaw36.ProofSound', WHERE WHAT IT READS IS OF BULK AT MOST 1048576: true; the input reads as it did. -/
def proofSoundUptoRow : OpenClaim := { program := "ytbmhkahphmgggaagreatdoor", sum := "666bf141334c94cb433e6b0a46664fcf1161034065586ec012e385f5c76ca52c", func := "modcert/modcertlaw36.ProofSound", spec := "proofSound", inPlace := ["internal/bytealg.CountString", "internal/bytealg.IndexByteString", "internal/bytealg.IndexString", "internal/bytealg.abigen_runtime_cmpstring"], unfollowed := true, recurses := true, named := ["unicode/utf8.first", "unicode/utf8.acceptRanges", "internal/bytealg.MaxLen"], loops := true, plainKeys := false, apart := false, laid := [("unicode/utf8.acceptRanges", laid_unicode_utf8_acceptRanges), ("unicode/utf8.first", laid_unicode_utf8_first)], narrowed := true }
def ProofSoundUptoSaid : Prop := proofSoundUptoRow.holds Tryz.pinned (OpenSpec.upto proofSoundSpec)

/-- 'modcertlaw36.ProofUnique', WHERE WHAT IT READS IS OF BULK AT MOST 1048576: true; the input reads as it did. -/
def proofUniqueUptoRow : OpenClaim := { program := "ytbmhkahphmgggaagreatdoor", sum := "666bf141334c94cb433e6b0a46664fcf1161034065586ec012e385f5c76ca52c", func := "modcert/modcertlaw36.ProofUnique", spec := "proofUnique", inPlace := ["internal/bytealg.CountString", "internal/bytealg.IndexByteString", "internal/bytealg.IndexString", "internal/bytealg.abigen_runtime_cmpstring"], unfollowed := true, recurses := true, named := ["unicode/utf8.first", "unicode/utf8.acceptRanges", "internal/bytealg.MaxLen"], loops := true, plainKeys := false, apart := false, laid := [("unicode/utf8.acceptRanges", laid_unicode_utf8_acceptRanges), ("unicode/utf8.first", laid_unicode_utf8_first)], narrowed := true }
def ProofUniqueUptoSaid : Prop := proofUniqueUptoRow.holds Tryz.pinned (OpenSpec.upto proofUniqueSpec)

/-- 'modcertlaw36.ProofFirst', WHERE WHAT IT READS IS OF BULK AT MOST 1048576: true; the input reads as it did. -/
def proofFirstUptoRow : OpenClaim := { program := "ytbmhkahphmgggaagreatdoor", sum := "666bf141334c94cb433e6b0a46664fcf1161034065586ec012e385f5c76ca52c", func := "modcert/modcertlaw36.ProofFirst", spec := "proofFirst", inPlace := ["internal/bytealg.CountString", "internal/bytealg.IndexByteString", "internal/bytealg.IndexString", "internal/bytealg.abigen_runtime_cmpstring"], unfollowed := true, recurses := true, named := ["unicode/utf8.first", "unicode/utf8.acceptRanges", "internal/bytealg.MaxLen"], loops := true, plainKeys := false, apart := false, laid := [("unicode/utf8.acceptRanges", laid_unicode_utf8_acceptRanges), ("unicode/utf8.first", laid_unicode_utf8_first)], narrowed := true }
def ProofFirstUptoSaid : Prop := proofFirstUptoRow.holds Tryz.pinned (OpenSpec.upto proofFirstSpec)

/-- 'modcertlaw36.ProofPrefix', WHERE WHAT IT READS IS OF BULK AT MOST 1048576: true; the input reads as it did. -/
def proofPrefixUptoRow : OpenClaim := { program := "ytbmhkahphmgggaagreatdoor", sum := "666bf141334c94cb433e6b0a46664fcf1161034065586ec012e385f5c76ca52c", func := "modcert/modcertlaw36.ProofPrefix", spec := "proofPrefix", inPlace := ["internal/bytealg.CountString", "internal/bytealg.IndexByteString", "internal/bytealg.IndexString", "internal/bytealg.abigen_runtime_cmpstring"], unfollowed := true, recurses := true, named := ["unicode/utf8.first", "unicode/utf8.acceptRanges", "internal/bytealg.MaxLen"], loops := true, plainKeys := false, apart := false, laid := [("unicode/utf8.acceptRanges", laid_unicode_utf8_acceptRanges), ("unicode/utf8.first", laid_unicode_utf8_first)], narrowed := true }
def ProofPrefixUptoSaid : Prop := proofPrefixUptoRow.holds Tryz.pinned (OpenSpec.upto proofPrefixSpec)

/-- 'modcertlaw36.ProofTampers', WHERE WHAT IT READS IS OF BULK AT MOST 1048576: true; the input reads as it did. -/
def proofTampersUptoRow : OpenClaim := { program := "ytbmhkahphmgggaagreatdoor", sum := "666bf141334c94cb433e6b0a46664fcf1161034065586ec012e385f5c76ca52c", func := "modcert/modcertlaw36.ProofTampers", spec := "proofTampers", inPlace := ["internal/bytealg.CountString", "internal/bytealg.IndexByteString", "internal/bytealg.IndexString", "internal/bytealg.abigen_runtime_cmpstring"], unfollowed := true, recurses := true, named := ["unicode/utf8.first", "unicode/utf8.acceptRanges", "internal/bytealg.MaxLen"], loops := true, plainKeys := false, apart := false, laid := [("unicode/utf8.acceptRanges", laid_unicode_utf8_acceptRanges), ("unicode/utf8.first", laid_unicode_utf8_first)], narrowed := true }
def ProofTampersUptoSaid : Prop := proofTampersUptoRow.holds Tryz.pinned (OpenSpec.upto proofTampersSpec)

end Rows
end Go.Proofs.YtbmhkahphmgggaaGreatDoor
