/-
  No cell of these rows narrows 'for every input' (looked for: loops, veiled, ifaces, maps, wideKeys, modest, calm, conditions, laid).
  DERIVED. THE GIVEN ROWS OF THIS SEAT. 12 by the template 'for every input the law returns true; each argument reads behind the call as it read before'; 0 by the template 'total and deterministic' (their statements: YthppdlemchmipaaTotals.lean).
  GIVEN WITH THE SEED: the statements are not yours to turn. If you find one false, say at which input.
  Laid BY PROGRAM, IN A SANDBOX (cutbox-rows.mjs): the forced cells as the released guide's own fill.sh prints them over the translation 4f2d819d3754fe75… (all of the seat's roots in one cut). By AI agents, Wed Nov 11 2026. No macro, syntax, notation, axiom, sorry.
-/
import Derived.Test.YthppdlemchmipaaChecked
import GoSem.Claim
import GoSem.ClaimJoined
import GoSem.ClaimMapViews
import Derived.JoinedTies
import Derived.KernelRfl
namespace Go.Proofs.Ythppdlemchmipaa
/- THE CELL 'sum', in the pinned program and in every row, IS THE sha256 OF THE DUMP (.gsa) THAT YthppdlemchmipaaProg.lean LOADS. Nothing in Lean hashes anything: it is a label: what it is worth is what the hold of that sum in a sandbox is worth. -/
noncomputable def Try.pinned : Pinned := { name := "ythppdlemchmipaa", sum := "4f2d819d3754fe75e50467eeb2719af7230c1b58f15d85531ba9466cf020668b", checked := Try.checked }
namespace Rows
def none {H : Type} : Left H := { results := [], args := [] }

/-- 'coadjutorlaw20.ManifestExact': WHATEVER THE INPUT: true; the input reads as it did. -/
def manifestExactSpec : ChangeSpec := { name := "manifestExact", fn := fun _ => fun
  | [d1, d2, d3, d4] => { results := [.lit (.bool true)], args := [d1, d2, d3, d4] }
  | _ => none }
def manifestExactRow : OpenClaim := { program := "ythppdlemchmipaa", sum := "4f2d819d3754fe75e50467eeb2719af7230c1b58f15d85531ba9466cf020668b", func := "coadjutor/coadjutorlaw20.ManifestExact", spec := "manifestExact", inPlace := ["internal/abi.NoEscape", "internal/bytealg.MakeNoZero"], recurses := true, apart := false }
def ManifestExactSaid : Prop := manifestExactRow.holds Try.pinned (OpenSpec.ofChange manifestExactSpec)

/-- ITS FALSE NEIGHBOUR: 'it returns false'. Refute it at one input. -/
def manifestExactWrong : ChangeSpec := { name := "manifestExact", fn := fun _ => fun
  | [d1, d2, d3, d4] => { results := [.lit (.bool false)], args := [d1, d2, d3, d4] }
  | _ => none }
def ManifestExactWrongFalsely : Prop := manifestExactRow.holds Try.pinned (OpenSpec.ofChange manifestExactWrong)

/-- 'coadjutorlaw35.MintExact': WHATEVER THE INPUT: true; the input reads as it did. -/
def mintExactSpec : ChangeSpec := { name := "mintExact", fn := fun _ => fun
  | [d1, d2, d3, d4, d5] => { results := [.lit (.bool true)], args := [d1, d2, d3, d4, d5] }
  | _ => none }
def mintExactRow : OpenClaim := { program := "ythppdlemchmipaa", sum := "4f2d819d3754fe75e50467eeb2719af7230c1b58f15d85531ba9466cf020668b", func := "coadjutor/coadjutorlaw35.MintExact", spec := "mintExact", inPlace := ["internal/abi.NoEscape", "internal/bytealg.MakeNoZero"], unfollowed := true, recurses := true, apart := false }
def MintExactSaid : Prop := mintExactRow.holds Try.pinned (OpenSpec.ofChange mintExactSpec)

/-- ITS FALSE NEIGHBOUR: 'it returns false'. Refute it at one input. -/
def mintExactWrong : ChangeSpec := { name := "mintExact", fn := fun _ => fun
  | [d1, d2, d3, d4, d5] => { results := [.lit (.bool false)], args := [d1, d2, d3, d4, d5] }
  | _ => none }
def MintExactWrongFalsely : Prop := mintExactRow.holds Try.pinned (OpenSpec.ofChange mintExactWrong)

/-- 'coadjutorlaw06.SealWhole': WHATEVER THE INPUT: true; the input reads as it did. -/
def sealWholeSpec : ChangeSpec := { name := "sealWhole", fn := fun _ => fun
  | [d1, d2, d3, d4, d5] => { results := [.lit (.bool true)], args := [d1, d2, d3, d4, d5] }
  | _ => none }
def sealWholeRow : OpenClaim := { program := "ythppdlemchmipaa", sum := "4f2d819d3754fe75e50467eeb2719af7230c1b58f15d85531ba9466cf020668b", func := "coadjutor/coadjutorlaw06.SealWhole", spec := "sealWhole", inPlace := ["internal/abi.NoEscape", "internal/bytealg.MakeNoZero"], unfollowed := true, recurses := true, apart := false }
def SealWholeSaid : Prop := sealWholeRow.holds Try.pinned (OpenSpec.ofChange sealWholeSpec)

/-- ITS FALSE NEIGHBOUR: 'it returns false'. Refute it at one input. -/
def sealWholeWrong : ChangeSpec := { name := "sealWhole", fn := fun _ => fun
  | [d1, d2, d3, d4, d5] => { results := [.lit (.bool false)], args := [d1, d2, d3, d4, d5] }
  | _ => none }
def SealWholeWrongFalsely : Prop := sealWholeRow.holds Try.pinned (OpenSpec.ofChange sealWholeWrong)

/-- 'coadjutorlaw06.SealExact': WHATEVER THE INPUT: true; the input reads as it did. -/
def sealExactSpec : ChangeSpec := { name := "sealExact", fn := fun _ => fun
  | [d1, d2, d3, d4] => { results := [.lit (.bool true)], args := [d1, d2, d3, d4] }
  | _ => none }
def sealExactRow : OpenClaim := { program := "ythppdlemchmipaa", sum := "4f2d819d3754fe75e50467eeb2719af7230c1b58f15d85531ba9466cf020668b", func := "coadjutor/coadjutorlaw06.SealExact", spec := "sealExact", inPlace := ["internal/abi.NoEscape", "internal/bytealg.MakeNoZero"], unfollowed := true, recurses := true, apart := false }
def SealExactSaid : Prop := sealExactRow.holds Try.pinned (OpenSpec.ofChange sealExactSpec)

/-- ITS FALSE NEIGHBOUR: 'it returns false'. Refute it at one input. -/
def sealExactWrong : ChangeSpec := { name := "sealExact", fn := fun _ => fun
  | [d1, d2, d3, d4] => { results := [.lit (.bool false)], args := [d1, d2, d3, d4] }
  | _ => none }
def SealExactWrongFalsely : Prop := sealExactRow.holds Try.pinned (OpenSpec.ofChange sealExactWrong)

/-- 'coadjutorlaw35.MintUpdates': WHATEVER THE INPUT: true; the input reads as it did. -/
def mintUpdatesSpec : ChangeSpec := { name := "mintUpdates", fn := fun _ => fun
  | [d1, d2, d3, d4] => { results := [.lit (.bool true)], args := [d1, d2, d3, d4] }
  | _ => none }
def mintUpdatesRow : OpenClaim := { program := "ythppdlemchmipaa", sum := "4f2d819d3754fe75e50467eeb2719af7230c1b58f15d85531ba9466cf020668b", func := "coadjutor/coadjutorlaw35.MintUpdates", spec := "mintUpdates", inPlace := ["internal/abi.NoEscape", "internal/bytealg.MakeNoZero"], unfollowed := true, recurses := true, apart := false }
def MintUpdatesSaid : Prop := mintUpdatesRow.holds Try.pinned (OpenSpec.ofChange mintUpdatesSpec)

/-- ITS FALSE NEIGHBOUR: 'it returns false'. Refute it at one input. -/
def mintUpdatesWrong : ChangeSpec := { name := "mintUpdates", fn := fun _ => fun
  | [d1, d2, d3, d4] => { results := [.lit (.bool false)], args := [d1, d2, d3, d4] }
  | _ => none }
def MintUpdatesWrongFalsely : Prop := mintUpdatesRow.holds Try.pinned (OpenSpec.ofChange mintUpdatesWrong)

/-- 'coadjutorlaw07.TwinExact': WHATEVER THE INPUT: true; the input reads as it did. -/
def twinExactSpec : ChangeSpec := { name := "twinExact", fn := fun _ => fun
  | [d1, d2] => { results := [.lit (.bool true)], args := [d1, d2] }
  | _ => none }
def twinExactRow : OpenClaim := { program := "ythppdlemchmipaa", sum := "4f2d819d3754fe75e50467eeb2719af7230c1b58f15d85531ba9466cf020668b", func := "coadjutor/coadjutorlaw07.TwinExact", spec := "twinExact", inPlace := ["internal/abi.NoEscape", "internal/bytealg.MakeNoZero"], unfollowed := true, recurses := true, apart := false }
def TwinExactSaid : Prop := twinExactRow.holds Try.pinned (OpenSpec.ofChange twinExactSpec)

/-- ITS FALSE NEIGHBOUR: 'it returns false'. Refute it at one input. -/
def twinExactWrong : ChangeSpec := { name := "twinExact", fn := fun _ => fun
  | [d1, d2] => { results := [.lit (.bool false)], args := [d1, d2] }
  | _ => none }
def TwinExactWrongFalsely : Prop := twinExactRow.holds Try.pinned (OpenSpec.ofChange twinExactWrong)

/-- 'coadjutorlaw07.TwinTurns': WHATEVER THE INPUT: true; the input reads as it did. -/
def twinTurnsSpec : ChangeSpec := { name := "twinTurns", fn := fun _ => fun
  | [d] => { results := [.lit (.bool true)], args := [d] }
  | _ => none }
def twinTurnsRow : OpenClaim := { program := "ythppdlemchmipaa", sum := "4f2d819d3754fe75e50467eeb2719af7230c1b58f15d85531ba9466cf020668b", func := "coadjutor/coadjutorlaw07.TwinTurns", spec := "twinTurns", inPlace := ["internal/abi.NoEscape", "internal/bytealg.MakeNoZero"], unfollowed := true, recurses := true, apart := false }
def TwinTurnsSaid : Prop := twinTurnsRow.holds Try.pinned (OpenSpec.ofChange twinTurnsSpec)

/-- ITS FALSE NEIGHBOUR: 'it returns false'. Refute it at one input. -/
def twinTurnsWrong : ChangeSpec := { name := "twinTurns", fn := fun _ => fun
  | [d] => { results := [.lit (.bool false)], args := [d] }
  | _ => none }
def TwinTurnsWrongFalsely : Prop := twinTurnsRow.holds Try.pinned (OpenSpec.ofChange twinTurnsWrong)

/-- 'coadjutorlaw09.SlotAll': WHATEVER THE INPUT: true; the input reads as it did. -/
def slotAllSpec : ChangeSpec := { name := "slotAll", fn := fun _ => fun
  | [d1, d2, d3, d4] => { results := [.lit (.bool true)], args := [d1, d2, d3, d4] }
  | _ => none }
def slotAllRow : OpenClaim := { program := "ythppdlemchmipaa", sum := "4f2d819d3754fe75e50467eeb2719af7230c1b58f15d85531ba9466cf020668b", func := "coadjutor/coadjutorlaw09.SlotAll", spec := "slotAll", inPlace := ["internal/abi.NoEscape", "internal/bytealg.MakeNoZero"], unfollowed := true, recurses := true, apart := false }
def SlotAllSaid : Prop := slotAllRow.holds Try.pinned (OpenSpec.ofChange slotAllSpec)

/-- ITS FALSE NEIGHBOUR: 'it returns false'. Refute it at one input. -/
def slotAllWrong : ChangeSpec := { name := "slotAll", fn := fun _ => fun
  | [d1, d2, d3, d4] => { results := [.lit (.bool false)], args := [d1, d2, d3, d4] }
  | _ => none }
def SlotAllWrongFalsely : Prop := slotAllRow.holds Try.pinned (OpenSpec.ofChange slotAllWrong)

/-- 'coadjutorlaw09.SlotApart': WHATEVER THE INPUT: true; the input reads as it did. -/
def slotApartSpec : ChangeSpec := { name := "slotApart", fn := fun _ => fun
  | [d1, d2, d3] => { results := [.lit (.bool true)], args := [d1, d2, d3] }
  | _ => none }
def slotApartRow : OpenClaim := { program := "ythppdlemchmipaa", sum := "4f2d819d3754fe75e50467eeb2719af7230c1b58f15d85531ba9466cf020668b", func := "coadjutor/coadjutorlaw09.SlotApart", spec := "slotApart", inPlace := ["internal/abi.NoEscape", "internal/bytealg.MakeNoZero"], unfollowed := true, recurses := true, apart := false }
def SlotApartSaid : Prop := slotApartRow.holds Try.pinned (OpenSpec.ofChange slotApartSpec)

/-- ITS FALSE NEIGHBOUR: 'it returns false'. Refute it at one input. -/
def slotApartWrong : ChangeSpec := { name := "slotApart", fn := fun _ => fun
  | [d1, d2, d3] => { results := [.lit (.bool false)], args := [d1, d2, d3] }
  | _ => none }
def SlotApartWrongFalsely : Prop := slotApartRow.holds Try.pinned (OpenSpec.ofChange slotApartWrong)

/-- 'coadjutorlaw07.TwinSaves': WHATEVER THE INPUT: true; the input reads as it did. -/
def twinSavesSpec : ChangeSpec := { name := "twinSaves", fn := fun _ => fun
  | [d1, d2, d3] => { results := [.lit (.bool true)], args := [d1, d2, d3] }
  | _ => none }
def twinSavesRow : OpenClaim := { program := "ythppdlemchmipaa", sum := "4f2d819d3754fe75e50467eeb2719af7230c1b58f15d85531ba9466cf020668b", func := "coadjutor/coadjutorlaw07.TwinSaves", spec := "twinSaves", inPlace := ["internal/abi.NoEscape", "internal/bytealg.MakeNoZero"], unfollowed := true, recurses := true, apart := false }
def TwinSavesSaid : Prop := twinSavesRow.holds Try.pinned (OpenSpec.ofChange twinSavesSpec)

/-- ITS FALSE NEIGHBOUR: 'it returns false'. Refute it at one input. -/
def twinSavesWrong : ChangeSpec := { name := "twinSaves", fn := fun _ => fun
  | [d1, d2, d3] => { results := [.lit (.bool false)], args := [d1, d2, d3] }
  | _ => none }
def TwinSavesWrongFalsely : Prop := twinSavesRow.holds Try.pinned (OpenSpec.ofChange twinSavesWrong)

/-- 'coadjutorlaw10.StoreCut': WHATEVER THE INPUT: true; the input reads as it did. -/
def storeCutSpec : ChangeSpec := { name := "storeCut", fn := fun _ => fun
  | [d1, d2, d3] => { results := [.lit (.bool true)], args := [d1, d2, d3] }
  | _ => none }
def storeCutRow : OpenClaim := { program := "ythppdlemchmipaa", sum := "4f2d819d3754fe75e50467eeb2719af7230c1b58f15d85531ba9466cf020668b", func := "coadjutor/coadjutorlaw10.StoreCut", spec := "storeCut", inPlace := ["internal/abi.NoEscape", "internal/bytealg.MakeNoZero"], unfollowed := true, recurses := true, apart := false }
def StoreCutSaid : Prop := storeCutRow.holds Try.pinned (OpenSpec.ofChange storeCutSpec)

/-- ITS FALSE NEIGHBOUR: 'it returns false'. Refute it at one input. -/
def storeCutWrong : ChangeSpec := { name := "storeCut", fn := fun _ => fun
  | [d1, d2, d3] => { results := [.lit (.bool false)], args := [d1, d2, d3] }
  | _ => none }
def StoreCutWrongFalsely : Prop := storeCutRow.holds Try.pinned (OpenSpec.ofChange storeCutWrong)

/-- 'coadjutorlaw10.StoreApart': WHATEVER THE INPUT: true; the input reads as it did. -/
def storeApartSpec : ChangeSpec := { name := "storeApart", fn := fun _ => fun
  | [d1, d2] => { results := [.lit (.bool true)], args := [d1, d2] }
  | _ => none }
def storeApartRow : OpenClaim := { program := "ythppdlemchmipaa", sum := "4f2d819d3754fe75e50467eeb2719af7230c1b58f15d85531ba9466cf020668b", func := "coadjutor/coadjutorlaw10.StoreApart", spec := "storeApart", inPlace := ["internal/abi.NoEscape", "internal/bytealg.MakeNoZero"], unfollowed := true, recurses := true, apart := false }
def StoreApartSaid : Prop := storeApartRow.holds Try.pinned (OpenSpec.ofChange storeApartSpec)

/-- ITS FALSE NEIGHBOUR: 'it returns false'. Refute it at one input. -/
def storeApartWrong : ChangeSpec := { name := "storeApart", fn := fun _ => fun
  | [d1, d2] => { results := [.lit (.bool false)], args := [d1, d2] }
  | _ => none }
def StoreApartWrongFalsely : Prop := storeApartRow.holds Try.pinned (OpenSpec.ofChange storeApartWrong)

/- THE SECOND FORM. 'bulk': how many values and letters a reading holds, each counted each time it is reached (what is shared counts as often as it is met; a slice's spare places count too). A statement '..UptoSaid' is the law's where the arguments, and the package variables that the reading takes, are together of bulk at most 1048576: NARROWER than '..Said'. Prove '..Said' where nothing that the law and all that it calls make is longer than what came in: it says more and counts as full. Else prove '..UptoSaid'. A law counts once. -/
mutual
def uptoBulk {H : Type} : DataW H → Nat
  | .lit (.string bytes) => bytes.length + 1
  | .lit _ => 1
  | .nil => 1
  | .ptr d => uptoBulk d + 1
  | .slice elems spare => uptoBulkAll elems + uptoBulkAll spare + 1
  | .agg parts => uptoBulkAll parts + 1
  | .iface _ d => uptoBulk d + 1
  | .map entries => uptoBulkEntries entries + 1
  | .held _ => 1
def uptoBulkAll {H : Type} : List (DataW H) → Nat
  | [] => 0
  | d :: r => uptoBulk d + uptoBulkAll r
def uptoBulkEntries {H : Type} : List (Lit × DataW H) → Nat
  | [] => 0
  | x :: r => uptoBulkEntry x + uptoBulkEntries r
def uptoBulkEntry {H : Type} : Lit × DataW H → Nat
  | (.string bytes, d) => bytes.length + uptoBulk d + 1
  | (_, d) => uptoBulk d + 1
 end
def uptoSmall : (H : Type) → List (DataW H) → Bool := fun _ ds => decide (uptoBulkAll ds ≤ 1048576)
def OpenSpec.upto (s : _root_.Go.ChangeSpec) : _root_.Go.OpenSpec := { _root_.Go.OpenSpec.ofChange s with cond := some uptoSmall }

/-- 'coadjutorlaw20.ManifestExact', WHERE WHAT IT READS IS OF BULK AT MOST 1048576: true; the input reads as it did. -/
def manifestExactUptoRow : OpenClaim := { program := "ythppdlemchmipaa", sum := "4f2d819d3754fe75e50467eeb2719af7230c1b58f15d85531ba9466cf020668b", func := "coadjutor/coadjutorlaw20.ManifestExact", spec := "manifestExact", inPlace := ["internal/abi.NoEscape", "internal/bytealg.MakeNoZero"], recurses := true, apart := false, narrowed := true }
def ManifestExactUptoSaid : Prop := manifestExactUptoRow.holds Try.pinned (OpenSpec.upto manifestExactSpec)

/-- 'coadjutorlaw35.MintExact', WHERE WHAT IT READS IS OF BULK AT MOST 1048576: true; the input reads as it did. -/
def mintExactUptoRow : OpenClaim := { program := "ythppdlemchmipaa", sum := "4f2d819d3754fe75e50467eeb2719af7230c1b58f15d85531ba9466cf020668b", func := "coadjutor/coadjutorlaw35.MintExact", spec := "mintExact", inPlace := ["internal/abi.NoEscape", "internal/bytealg.MakeNoZero"], unfollowed := true, recurses := true, apart := false, narrowed := true }
def MintExactUptoSaid : Prop := mintExactUptoRow.holds Try.pinned (OpenSpec.upto mintExactSpec)

/-- 'coadjutorlaw06.SealWhole', WHERE WHAT IT READS IS OF BULK AT MOST 1048576: true; the input reads as it did. -/
def sealWholeUptoRow : OpenClaim := { program := "ythppdlemchmipaa", sum := "4f2d819d3754fe75e50467eeb2719af7230c1b58f15d85531ba9466cf020668b", func := "coadjutor/coadjutorlaw06.SealWhole", spec := "sealWhole", inPlace := ["internal/abi.NoEscape", "internal/bytealg.MakeNoZero"], unfollowed := true, recurses := true, apart := false, narrowed := true }
def SealWholeUptoSaid : Prop := sealWholeUptoRow.holds Try.pinned (OpenSpec.upto sealWholeSpec)

/-- 'coadjutorlaw06.SealExact', WHERE WHAT IT READS IS OF BULK AT MOST 1048576: true; the input reads as it did. -/
def sealExactUptoRow : OpenClaim := { program := "ythppdlemchmipaa", sum := "4f2d819d3754fe75e50467eeb2719af7230c1b58f15d85531ba9466cf020668b", func := "coadjutor/coadjutorlaw06.SealExact", spec := "sealExact", inPlace := ["internal/abi.NoEscape", "internal/bytealg.MakeNoZero"], unfollowed := true, recurses := true, apart := false, narrowed := true }
def SealExactUptoSaid : Prop := sealExactUptoRow.holds Try.pinned (OpenSpec.upto sealExactSpec)

/-- 'coadjutorlaw35.MintUpdates', WHERE WHAT IT READS IS OF BULK AT MOST 1048576: true; the input reads as it did. -/
def mintUpdatesUptoRow : OpenClaim := { program := "ythppdlemchmipaa", sum := "4f2d819d3754fe75e50467eeb2719af7230c1b58f15d85531ba9466cf020668b", func := "coadjutor/coadjutorlaw35.MintUpdates", spec := "mintUpdates", inPlace := ["internal/abi.NoEscape", "internal/bytealg.MakeNoZero"], unfollowed := true, recurses := true, apart := false, narrowed := true }
def MintUpdatesUptoSaid : Prop := mintUpdatesUptoRow.holds Try.pinned (OpenSpec.upto mintUpdatesSpec)

/-- 'coadjutorlaw07.TwinExact', WHERE WHAT IT READS IS OF BULK AT MOST 1048576: true; the input reads as it did. -/
def twinExactUptoRow : OpenClaim := { program := "ythppdlemchmipaa", sum := "4f2d819d3754fe75e50467eeb2719af7230c1b58f15d85531ba9466cf020668b", func := "coadjutor/coadjutorlaw07.TwinExact", spec := "twinExact", inPlace := ["internal/abi.NoEscape", "internal/bytealg.MakeNoZero"], unfollowed := true, recurses := true, apart := false, narrowed := true }
def TwinExactUptoSaid : Prop := twinExactUptoRow.holds Try.pinned (OpenSpec.upto twinExactSpec)

/-- 'coadjutorlaw07.TwinTurns', WHERE WHAT IT READS IS OF BULK AT MOST 1048576: true; the input reads as it did. -/
def twinTurnsUptoRow : OpenClaim := { program := "ythppdlemchmipaa", sum := "4f2d819d3754fe75e50467eeb2719af7230c1b58f15d85531ba9466cf020668b", func := "coadjutor/coadjutorlaw07.TwinTurns", spec := "twinTurns", inPlace := ["internal/abi.NoEscape", "internal/bytealg.MakeNoZero"], unfollowed := true, recurses := true, apart := false, narrowed := true }
def TwinTurnsUptoSaid : Prop := twinTurnsUptoRow.holds Try.pinned (OpenSpec.upto twinTurnsSpec)

/-- 'coadjutorlaw09.SlotAll', WHERE WHAT IT READS IS OF BULK AT MOST 1048576: true; the input reads as it did. -/
def slotAllUptoRow : OpenClaim := { program := "ythppdlemchmipaa", sum := "4f2d819d3754fe75e50467eeb2719af7230c1b58f15d85531ba9466cf020668b", func := "coadjutor/coadjutorlaw09.SlotAll", spec := "slotAll", inPlace := ["internal/abi.NoEscape", "internal/bytealg.MakeNoZero"], unfollowed := true, recurses := true, apart := false, narrowed := true }
def SlotAllUptoSaid : Prop := slotAllUptoRow.holds Try.pinned (OpenSpec.upto slotAllSpec)

/-- 'coadjutorlaw09.SlotApart', WHERE WHAT IT READS IS OF BULK AT MOST 1048576: true; the input reads as it did. -/
def slotApartUptoRow : OpenClaim := { program := "ythppdlemchmipaa", sum := "4f2d819d3754fe75e50467eeb2719af7230c1b58f15d85531ba9466cf020668b", func := "coadjutor/coadjutorlaw09.SlotApart", spec := "slotApart", inPlace := ["internal/abi.NoEscape", "internal/bytealg.MakeNoZero"], unfollowed := true, recurses := true, apart := false, narrowed := true }
def SlotApartUptoSaid : Prop := slotApartUptoRow.holds Try.pinned (OpenSpec.upto slotApartSpec)

/-- 'coadjutorlaw07.TwinSaves', WHERE WHAT IT READS IS OF BULK AT MOST 1048576: true; the input reads as it did. -/
def twinSavesUptoRow : OpenClaim := { program := "ythppdlemchmipaa", sum := "4f2d819d3754fe75e50467eeb2719af7230c1b58f15d85531ba9466cf020668b", func := "coadjutor/coadjutorlaw07.TwinSaves", spec := "twinSaves", inPlace := ["internal/abi.NoEscape", "internal/bytealg.MakeNoZero"], unfollowed := true, recurses := true, apart := false, narrowed := true }
def TwinSavesUptoSaid : Prop := twinSavesUptoRow.holds Try.pinned (OpenSpec.upto twinSavesSpec)

/-- 'coadjutorlaw10.StoreCut', WHERE WHAT IT READS IS OF BULK AT MOST 1048576: true; the input reads as it did. -/
def storeCutUptoRow : OpenClaim := { program := "ythppdlemchmipaa", sum := "4f2d819d3754fe75e50467eeb2719af7230c1b58f15d85531ba9466cf020668b", func := "coadjutor/coadjutorlaw10.StoreCut", spec := "storeCut", inPlace := ["internal/abi.NoEscape", "internal/bytealg.MakeNoZero"], unfollowed := true, recurses := true, apart := false, narrowed := true }
def StoreCutUptoSaid : Prop := storeCutUptoRow.holds Try.pinned (OpenSpec.upto storeCutSpec)

/-- 'coadjutorlaw10.StoreApart', WHERE WHAT IT READS IS OF BULK AT MOST 1048576: true; the input reads as it did. -/
def storeApartUptoRow : OpenClaim := { program := "ythppdlemchmipaa", sum := "4f2d819d3754fe75e50467eeb2719af7230c1b58f15d85531ba9466cf020668b", func := "coadjutor/coadjutorlaw10.StoreApart", spec := "storeApart", inPlace := ["internal/abi.NoEscape", "internal/bytealg.MakeNoZero"], unfollowed := true, recurses := true, apart := false, narrowed := true }
def StoreApartUptoSaid : Prop := storeApartUptoRow.holds Try.pinned (OpenSpec.upto storeApartSpec)

end Rows
end Go.Proofs.Ythppdlemchmipaa
