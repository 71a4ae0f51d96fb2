/-
  NARROWER THAN 'FOR EVERY INPUT', by the rows' own cells (each row's printed sentence says how): WorldLocks: laid · WorldCounts: laid · WorldMaps: laid · WorldGrace: laid · WorldNobody: laid · SystemSlots: laid · SystemNobody: laid.
  DERIVED. THE GIVEN ROWS OF THIS SEAT. 7 by the template 'for every input the law returns true; each argument reads behind the call as it read before'; 0 by the template 'total and deterministic' (their statements: YtcjlhjoobchabaaGreatDoorTotals.lean).
  GIVEN WITH THE SEED: the statements are not yours to turn. If you find one false, say at which input.
  Laid BY PROGRAM, IN A SANDBOX (cutbox-rows.mjs): the forced cells as the released guide's own fill.sh prints them over the translation 5e69ce588fa24e62… (all of the seat's roots in one cut). By AI agents, Wed Nov 11 2026. No macro, syntax, notation, axiom, sorry.
-/
import Derived.Test.YtcjlhjoobchabaaGreatDoorChecked
import GoSem.Claim
import GoSem.ClaimJoined
import GoSem.ClaimMapViews
import Derived.JoinedTies
import Derived.KernelRfl
namespace Go.Proofs.YtcjlhjoobchabaaGreatDoor
/- THE CELL 'sum', in the pinned program and in every row, IS THE sha256 OF THE DUMP (.gsa) THAT YtcjlhjoobchabaaGreatDoorProg.lean LOADS. Nothing in Lean hashes anything: it is a label: what it is worth is what the hold of that sum in a sandbox is worth. -/
noncomputable def Tryz.pinned : Pinned := { name := "ytcjlhjoobchabaagreatdoor", sum := "5e69ce588fa24e62fd8211e7aaa951f36aae21b711db18687a7b0fa4ee3b6981", checked := Tryz.checked }
namespace Rows
def none {H : Type} : Left H := { results := [], args := [] }

/- WHAT THE LISTED PACKAGE-LEVEL VARIABLES READ AS WHEN THE CALL BEGINS. Each datum BY PROGRAM (the guide's laid-datum.mjs) off the statement by which the dump's own 'gosem.cut.vars' lays the variable. In a bare row this is a premise. The card (YtcjlhjoobchabaaGreatDoorCards.lean) ties it to the program's text. -/
def laid_math_bits_deBruijn32tab {H : Type} : DataW H := .agg [.lit (.int .u8 0), .lit (.int .u8 1), .lit (.int .u8 28), .lit (.int .u8 2), .lit (.int .u8 29), .lit (.int .u8 14), .lit (.int .u8 24), .lit (.int .u8 3), .lit (.int .u8 30), .lit (.int .u8 22), .lit (.int .u8 20), .lit (.int .u8 15), .lit (.int .u8 25), .lit (.int .u8 17), .lit (.int .u8 4), .lit (.int .u8 8), .lit (.int .u8 31), .lit (.int .u8 27), .lit (.int .u8 13), .lit (.int .u8 23), .lit (.int .u8 21), .lit (.int .u8 19), .lit (.int .u8 16), .lit (.int .u8 7), .lit (.int .u8 26), .lit (.int .u8 12), .lit (.int .u8 18), .lit (.int .u8 6), .lit (.int .u8 11), .lit (.int .u8 5), .lit (.int .u8 10), .lit (.int .u8 9)]
def laid_math_bits_deBruijn64tab {H : Type} : DataW H := .agg [.lit (.int .u8 0), .lit (.int .u8 1), .lit (.int .u8 56), .lit (.int .u8 2), .lit (.int .u8 57), .lit (.int .u8 49), .lit (.int .u8 28), .lit (.int .u8 3), .lit (.int .u8 61), .lit (.int .u8 58), .lit (.int .u8 42), .lit (.int .u8 50), .lit (.int .u8 38), .lit (.int .u8 29), .lit (.int .u8 17), .lit (.int .u8 4), .lit (.int .u8 62), .lit (.int .u8 47), .lit (.int .u8 59), .lit (.int .u8 36), .lit (.int .u8 45), .lit (.int .u8 43), .lit (.int .u8 51), .lit (.int .u8 22), .lit (.int .u8 53), .lit (.int .u8 39), .lit (.int .u8 33), .lit (.int .u8 30), .lit (.int .u8 24), .lit (.int .u8 18), .lit (.int .u8 12), .lit (.int .u8 5), .lit (.int .u8 63), .lit (.int .u8 55), .lit (.int .u8 48), .lit (.int .u8 27), .lit (.int .u8 60), .lit (.int .u8 41), .lit (.int .u8 37), .lit (.int .u8 16), .lit (.int .u8 46), .lit (.int .u8 35), .lit (.int .u8 44), .lit (.int .u8 21), .lit (.int .u8 52), .lit (.int .u8 32), .lit (.int .u8 23), .lit (.int .u8 11), .lit (.int .u8 54), .lit (.int .u8 26), .lit (.int .u8 40), .lit (.int .u8 15), .lit (.int .u8 34), .lit (.int .u8 20), .lit (.int .u8 31), .lit (.int .u8 10), .lit (.int .u8 25), .lit (.int .u8 14), .lit (.int .u8 19), .lit (.int .u8 9), .lit (.int .u8 13), .lit (.int .u8 8), .lit (.int .u8 7), .lit (.int .u8 6)]
def laid_internal_strconv_uint64pow10 {H : Type} : DataW H := .agg [.lit (.int .u64 1), .lit (.int .u64 10), .lit (.int .u64 100), .lit (.int .u64 1000), .lit (.int .u64 10000), .lit (.int .u64 100000), .lit (.int .u64 1000000), .lit (.int .u64 10000000), .lit (.int .u64 100000000), .lit (.int .u64 1000000000), .lit (.int .u64 10000000000), .lit (.int .u64 100000000000), .lit (.int .u64 1000000000000), .lit (.int .u64 10000000000000), .lit (.int .u64 100000000000000), .lit (.int .u64 1000000000000000), .lit (.int .u64 10000000000000000), .lit (.int .u64 100000000000000000), .lit (.int .u64 1000000000000000000), .lit (.int .u64 10000000000000000000)]

/-- 'turnbucklelaw20.WorldLocks': WHATEVER THE INPUT: true; the input reads as it did. -/
def worldLocksSpec : ChangeSpec := { name := "worldLocks", fn := fun _ => fun
  | [d1, d2, d3] => { results := [.lit (.bool true)], args := [d1, d2, d3] }
  | _ => none }
def worldLocksRow : OpenClaim := { program := "ytcjlhjoobchabaagreatdoor", sum := "5e69ce588fa24e62fd8211e7aaa951f36aae21b711db18687a7b0fa4ee3b6981", func := "turnbuckle/turnbucklelaw20.WorldLocks", spec := "worldLocks", inPlace := ["internal/abi.NoEscape", "internal/bytealg.MakeNoZero"], unfollowed := true, recurses := true, named := ["math/bits.deBruijn64tab", "internal/strconv.uint64pow10", "math/bits.deBruijn32tab"], apart := false, laid := [("math/bits.deBruijn32tab", laid_math_bits_deBruijn32tab), ("math/bits.deBruijn64tab", laid_math_bits_deBruijn64tab), ("internal/strconv.uint64pow10", laid_internal_strconv_uint64pow10)] }
def WorldLocksSaid : Prop := worldLocksRow.holds Tryz.pinned (OpenSpec.ofChange worldLocksSpec)

/-- ITS FALSE NEIGHBOUR: 'it returns false'. Refute it at one input. -/
def worldLocksWrong : ChangeSpec := { name := "worldLocks", fn := fun _ => fun
  | [d1, d2, d3] => { results := [.lit (.bool false)], args := [d1, d2, d3] }
  | _ => none }
def WorldLocksWrongFalsely : Prop := worldLocksRow.holds Tryz.pinned (OpenSpec.ofChange worldLocksWrong)

/-- 'turnbucklelaw20.WorldCounts': WHATEVER THE INPUT: true; the input reads as it did. -/
def worldCountsSpec : ChangeSpec := { name := "worldCounts", fn := fun _ => fun
  | [d1, d2] => { results := [.lit (.bool true)], args := [d1, d2] }
  | _ => none }
def worldCountsRow : OpenClaim := { program := "ytcjlhjoobchabaagreatdoor", sum := "5e69ce588fa24e62fd8211e7aaa951f36aae21b711db18687a7b0fa4ee3b6981", func := "turnbuckle/turnbucklelaw20.WorldCounts", spec := "worldCounts", inPlace := ["internal/abi.NoEscape", "internal/bytealg.MakeNoZero"], unfollowed := true, recurses := true, named := ["math/bits.deBruijn64tab", "internal/strconv.uint64pow10", "math/bits.deBruijn32tab"], apart := false, laid := [("math/bits.deBruijn32tab", laid_math_bits_deBruijn32tab), ("math/bits.deBruijn64tab", laid_math_bits_deBruijn64tab), ("internal/strconv.uint64pow10", laid_internal_strconv_uint64pow10)] }
def WorldCountsSaid : Prop := worldCountsRow.holds Tryz.pinned (OpenSpec.ofChange worldCountsSpec)

/-- ITS FALSE NEIGHBOUR: 'it returns false'. Refute it at one input. -/
def worldCountsWrong : ChangeSpec := { name := "worldCounts", fn := fun _ => fun
  | [d1, d2] => { results := [.lit (.bool false)], args := [d1, d2] }
  | _ => none }
def WorldCountsWrongFalsely : Prop := worldCountsRow.holds Tryz.pinned (OpenSpec.ofChange worldCountsWrong)

/-- 'turnbucklelaw20.WorldMaps': WHATEVER THE INPUT: true; the input reads as it did. -/
def worldMapsSpec : ChangeSpec := { name := "worldMaps", fn := fun _ => fun
  | [d1, d2, d3] => { results := [.lit (.bool true)], args := [d1, d2, d3] }
  | _ => none }
def worldMapsRow : OpenClaim := { program := "ytcjlhjoobchabaagreatdoor", sum := "5e69ce588fa24e62fd8211e7aaa951f36aae21b711db18687a7b0fa4ee3b6981", func := "turnbuckle/turnbucklelaw20.WorldMaps", spec := "worldMaps", inPlace := ["internal/abi.NoEscape", "internal/bytealg.MakeNoZero"], unfollowed := true, recurses := true, named := ["math/bits.deBruijn64tab", "internal/strconv.uint64pow10", "math/bits.deBruijn32tab"], apart := false, laid := [("math/bits.deBruijn32tab", laid_math_bits_deBruijn32tab), ("math/bits.deBruijn64tab", laid_math_bits_deBruijn64tab), ("internal/strconv.uint64pow10", laid_internal_strconv_uint64pow10)] }
def WorldMapsSaid : Prop := worldMapsRow.holds Tryz.pinned (OpenSpec.ofChange worldMapsSpec)

/-- ITS FALSE NEIGHBOUR: 'it returns false'. Refute it at one input. -/
def worldMapsWrong : ChangeSpec := { name := "worldMaps", fn := fun _ => fun
  | [d1, d2, d3] => { results := [.lit (.bool false)], args := [d1, d2, d3] }
  | _ => none }
def WorldMapsWrongFalsely : Prop := worldMapsRow.holds Tryz.pinned (OpenSpec.ofChange worldMapsWrong)

/-- 'turnbucklelaw20.WorldGrace': WHATEVER THE INPUT: true; the input reads as it did. -/
def worldGraceSpec : ChangeSpec := { name := "worldGrace", fn := fun _ => fun
  | [d1, d2, d3] => { results := [.lit (.bool true)], args := [d1, d2, d3] }
  | _ => none }
def worldGraceRow : OpenClaim := { program := "ytcjlhjoobchabaagreatdoor", sum := "5e69ce588fa24e62fd8211e7aaa951f36aae21b711db18687a7b0fa4ee3b6981", func := "turnbuckle/turnbucklelaw20.WorldGrace", spec := "worldGrace", inPlace := ["internal/abi.NoEscape", "internal/bytealg.MakeNoZero"], unfollowed := true, recurses := true, named := ["math/bits.deBruijn64tab", "internal/strconv.uint64pow10", "math/bits.deBruijn32tab"], apart := false, laid := [("math/bits.deBruijn32tab", laid_math_bits_deBruijn32tab), ("math/bits.deBruijn64tab", laid_math_bits_deBruijn64tab), ("internal/strconv.uint64pow10", laid_internal_strconv_uint64pow10)] }
def WorldGraceSaid : Prop := worldGraceRow.holds Tryz.pinned (OpenSpec.ofChange worldGraceSpec)

/-- ITS FALSE NEIGHBOUR: 'it returns false'. Refute it at one input. -/
def worldGraceWrong : ChangeSpec := { name := "worldGrace", fn := fun _ => fun
  | [d1, d2, d3] => { results := [.lit (.bool false)], args := [d1, d2, d3] }
  | _ => none }
def WorldGraceWrongFalsely : Prop := worldGraceRow.holds Tryz.pinned (OpenSpec.ofChange worldGraceWrong)

/-- 'turnbucklelaw20.WorldNobody': WHATEVER THE INPUT: true; the input reads as it did. -/
def worldNobodySpec : ChangeSpec := { name := "worldNobody", fn := fun _ => fun
  | [d1, d2, d3, d4] => { results := [.lit (.bool true)], args := [d1, d2, d3, d4] }
  | _ => none }
def worldNobodyRow : OpenClaim := { program := "ytcjlhjoobchabaagreatdoor", sum := "5e69ce588fa24e62fd8211e7aaa951f36aae21b711db18687a7b0fa4ee3b6981", func := "turnbuckle/turnbucklelaw20.WorldNobody", spec := "worldNobody", inPlace := ["internal/abi.NoEscape", "internal/bytealg.MakeNoZero"], unfollowed := true, recurses := true, named := ["math/bits.deBruijn64tab", "internal/strconv.uint64pow10", "math/bits.deBruijn32tab"], apart := false, laid := [("math/bits.deBruijn32tab", laid_math_bits_deBruijn32tab), ("math/bits.deBruijn64tab", laid_math_bits_deBruijn64tab), ("internal/strconv.uint64pow10", laid_internal_strconv_uint64pow10)] }
def WorldNobodySaid : Prop := worldNobodyRow.holds Tryz.pinned (OpenSpec.ofChange worldNobodySpec)

/-- ITS FALSE NEIGHBOUR: 'it returns false'. Refute it at one input. -/
def worldNobodyWrong : ChangeSpec := { name := "worldNobody", fn := fun _ => fun
  | [d1, d2, d3, d4] => { results := [.lit (.bool false)], args := [d1, d2, d3, d4] }
  | _ => none }
def WorldNobodyWrongFalsely : Prop := worldNobodyRow.holds Tryz.pinned (OpenSpec.ofChange worldNobodyWrong)

/-- 'turnbucklelaw22.SystemSlots': WHATEVER THE INPUT: true; the input reads as it did. -/
def systemSlotsSpec : ChangeSpec := { name := "systemSlots", fn := fun _ => fun
  | [d] => { results := [.lit (.bool true)], args := [d] }
  | _ => none }
def systemSlotsRow : OpenClaim := { program := "ytcjlhjoobchabaagreatdoor", sum := "5e69ce588fa24e62fd8211e7aaa951f36aae21b711db18687a7b0fa4ee3b6981", func := "turnbuckle/turnbucklelaw22.SystemSlots", spec := "systemSlots", inPlace := ["math/bits.Add64"], unfollowed := true, recurses := true, named := ["math/bits.deBruijn64tab"], apart := false, laid := [("math/bits.deBruijn64tab", laid_math_bits_deBruijn64tab)] }
def SystemSlotsSaid : Prop := systemSlotsRow.holds Tryz.pinned (OpenSpec.ofChange systemSlotsSpec)

/-- ITS FALSE NEIGHBOUR: 'it returns false'. Refute it at one input. -/
def systemSlotsWrong : ChangeSpec := { name := "systemSlots", fn := fun _ => fun
  | [d] => { results := [.lit (.bool false)], args := [d] }
  | _ => none }
def SystemSlotsWrongFalsely : Prop := systemSlotsRow.holds Tryz.pinned (OpenSpec.ofChange systemSlotsWrong)

/-- 'turnbucklelaw22.SystemNobody': WHATEVER THE INPUT: true; the input reads as it did. -/
def systemNobodySpec : ChangeSpec := { name := "systemNobody", fn := fun _ => fun
  | [d1, d2] => { results := [.lit (.bool true)], args := [d1, d2] }
  | _ => none }
def systemNobodyRow : OpenClaim := { program := "ytcjlhjoobchabaagreatdoor", sum := "5e69ce588fa24e62fd8211e7aaa951f36aae21b711db18687a7b0fa4ee3b6981", func := "turnbuckle/turnbucklelaw22.SystemNobody", spec := "systemNobody", inPlace := ["math/bits.Add64", "internal/abi.NoEscape", "internal/bytealg.MakeNoZero"], unfollowed := true, recurses := true, named := ["math/bits.deBruijn64tab", "internal/strconv.uint64pow10", "math/bits.deBruijn32tab"], apart := false, laid := [("math/bits.deBruijn32tab", laid_math_bits_deBruijn32tab), ("math/bits.deBruijn64tab", laid_math_bits_deBruijn64tab), ("internal/strconv.uint64pow10", laid_internal_strconv_uint64pow10)] }
def SystemNobodySaid : Prop := systemNobodyRow.holds Tryz.pinned (OpenSpec.ofChange systemNobodySpec)

/-- ITS FALSE NEIGHBOUR: 'it returns false'. Refute it at one input. -/
def systemNobodyWrong : ChangeSpec := { name := "systemNobody", fn := fun _ => fun
  | [d1, d2] => { results := [.lit (.bool false)], args := [d1, d2] }
  | _ => none }
def SystemNobodyWrongFalsely : Prop := systemNobodyRow.holds Tryz.pinned (OpenSpec.ofChange systemNobodyWrong)

/- THE SECOND FORM. 'bulk': how many values and letters a reading holds, each counted each time it is reached (what is shared counts as often as it is met; a slice's spare places count too). A statement '..UptoSaid' is the law's where the arguments, and the package variables that the reading takes, are together of bulk at most 1048576: NARROWER than '..Said'. Prove '..Said' where nothing that the law and all that it calls make is longer than what came in: it says more and counts as full. Else prove '..UptoSaid'. A law counts once. -/
mutual
def uptoBulk {H : Type} : DataW H → Nat
  | .lit (.string bytes) => bytes.length + 1
  | .lit _ => 1
  | .nil => 1
  | .ptr d => uptoBulk d + 1
  | .slice elems spare => uptoBulkAll elems + uptoBulkAll spare + 1
  | .agg parts => uptoBulkAll parts + 1
  | .iface _ d => uptoBulk d + 1
  | .map entries => uptoBulkEntries entries + 1
  | .held _ => 1
def uptoBulkAll {H : Type} : List (DataW H) → Nat
  | [] => 0
  | d :: r => uptoBulk d + uptoBulkAll r
def uptoBulkEntries {H : Type} : List (Lit × DataW H) → Nat
  | [] => 0
  | x :: r => uptoBulkEntry x + uptoBulkEntries r
def uptoBulkEntry {H : Type} : Lit × DataW H → Nat
  | (.string bytes, d) => bytes.length + uptoBulk d + 1
  | (_, d) => uptoBulk d + 1
 end
def uptoSmall : (H : Type) → List (DataW H) → Bool := fun _ ds => decide (uptoBulkAll ds ≤ 1048576)
def OpenSpec.upto (s : _root_.Go.ChangeSpec) : _root_.Go.OpenSpec := { _root_.Go.OpenSpec.ofChange s with cond := some uptoSmall }

/-- 'turnbucklelaw20.WorldLocks', WHERE WHAT IT READS IS OF BULK AT MOST 1048576: true; the input reads as it did. -/
def worldLocksUptoRow : OpenClaim := { program := "ytcjlhjoobchabaagreatdoor", sum := "5e69ce588fa24e62fd8211e7aaa951f36aae21b711db18687a7b0fa4ee3b6981", func := "turnbuckle/turnbucklelaw20.WorldLocks", spec := "worldLocks", inPlace := ["internal/abi.NoEscape", "internal/bytealg.MakeNoZero"], unfollowed := true, recurses := true, named := ["math/bits.deBruijn64tab", "internal/strconv.uint64pow10", "math/bits.deBruijn32tab"], apart := false, laid := [("math/bits.deBruijn32tab", laid_math_bits_deBruijn32tab), ("math/bits.deBruijn64tab", laid_math_bits_deBruijn64tab), ("internal/strconv.uint64pow10", laid_internal_strconv_uint64pow10)], narrowed := true }
def WorldLocksUptoSaid : Prop := worldLocksUptoRow.holds Tryz.pinned (OpenSpec.upto worldLocksSpec)

/-- 'turnbucklelaw20.WorldCounts', WHERE WHAT IT READS IS OF BULK AT MOST 1048576: true; the input reads as it did. -/
def worldCountsUptoRow : OpenClaim := { program := "ytcjlhjoobchabaagreatdoor", sum := "5e69ce588fa24e62fd8211e7aaa951f36aae21b711db18687a7b0fa4ee3b6981", func := "turnbuckle/turnbucklelaw20.WorldCounts", spec := "worldCounts", inPlace := ["internal/abi.NoEscape", "internal/bytealg.MakeNoZero"], unfollowed := true, recurses := true, named := ["math/bits.deBruijn64tab", "internal/strconv.uint64pow10", "math/bits.deBruijn32tab"], apart := false, laid := [("math/bits.deBruijn32tab", laid_math_bits_deBruijn32tab), ("math/bits.deBruijn64tab", laid_math_bits_deBruijn64tab), ("internal/strconv.uint64pow10", laid_internal_strconv_uint64pow10)], narrowed := true }
def WorldCountsUptoSaid : Prop := worldCountsUptoRow.holds Tryz.pinned (OpenSpec.upto worldCountsSpec)

/-- 'turnbucklelaw20.WorldMaps', WHERE WHAT IT READS IS OF BULK AT MOST 1048576: true; the input reads as it did. -/
def worldMapsUptoRow : OpenClaim := { program := "ytcjlhjoobchabaagreatdoor", sum := "5e69ce588fa24e62fd8211e7aaa951f36aae21b711db18687a7b0fa4ee3b6981", func := "turnbuckle/turnbucklelaw20.WorldMaps", spec := "worldMaps", inPlace := ["internal/abi.NoEscape", "internal/bytealg.MakeNoZero"], unfollowed := true, recurses := true, named := ["math/bits.deBruijn64tab", "internal/strconv.uint64pow10", "math/bits.deBruijn32tab"], apart := false, laid := [("math/bits.deBruijn32tab", laid_math_bits_deBruijn32tab), ("math/bits.deBruijn64tab", laid_math_bits_deBruijn64tab), ("internal/strconv.uint64pow10", laid_internal_strconv_uint64pow10)], narrowed := true }
def WorldMapsUptoSaid : Prop := worldMapsUptoRow.holds Tryz.pinned (OpenSpec.upto worldMapsSpec)

/-- 'turnbucklelaw20.WorldGrace', WHERE WHAT IT READS IS OF BULK AT MOST 1048576: true; the input reads as it did. -/
def worldGraceUptoRow : OpenClaim := { program := "ytcjlhjoobchabaagreatdoor", sum := "5e69ce588fa24e62fd8211e7aaa951f36aae21b711db18687a7b0fa4ee3b6981", func := "turnbuckle/turnbucklelaw20.WorldGrace", spec := "worldGrace", inPlace := ["internal/abi.NoEscape", "internal/bytealg.MakeNoZero"], unfollowed := true, recurses := true, named := ["math/bits.deBruijn64tab", "internal/strconv.uint64pow10", "math/bits.deBruijn32tab"], apart := false, laid := [("math/bits.deBruijn32tab", laid_math_bits_deBruijn32tab), ("math/bits.deBruijn64tab", laid_math_bits_deBruijn64tab), ("internal/strconv.uint64pow10", laid_internal_strconv_uint64pow10)], narrowed := true }
def WorldGraceUptoSaid : Prop := worldGraceUptoRow.holds Tryz.pinned (OpenSpec.upto worldGraceSpec)

/-- 'turnbucklelaw20.WorldNobody', WHERE WHAT IT READS IS OF BULK AT MOST 1048576: true; the input reads as it did. -/
def worldNobodyUptoRow : OpenClaim := { program := "ytcjlhjoobchabaagreatdoor", sum := "5e69ce588fa24e62fd8211e7aaa951f36aae21b711db18687a7b0fa4ee3b6981", func := "turnbuckle/turnbucklelaw20.WorldNobody", spec := "worldNobody", inPlace := ["internal/abi.NoEscape", "internal/bytealg.MakeNoZero"], unfollowed := true, recurses := true, named := ["math/bits.deBruijn64tab", "internal/strconv.uint64pow10", "math/bits.deBruijn32tab"], apart := false, laid := [("math/bits.deBruijn32tab", laid_math_bits_deBruijn32tab), ("math/bits.deBruijn64tab", laid_math_bits_deBruijn64tab), ("internal/strconv.uint64pow10", laid_internal_strconv_uint64pow10)], narrowed := true }
def WorldNobodyUptoSaid : Prop := worldNobodyUptoRow.holds Tryz.pinned (OpenSpec.upto worldNobodySpec)

/-- 'turnbucklelaw22.SystemSlots', WHERE WHAT IT READS IS OF BULK AT MOST 1048576: true; the input reads as it did. -/
def systemSlotsUptoRow : OpenClaim := { program := "ytcjlhjoobchabaagreatdoor", sum := "5e69ce588fa24e62fd8211e7aaa951f36aae21b711db18687a7b0fa4ee3b6981", func := "turnbuckle/turnbucklelaw22.SystemSlots", spec := "systemSlots", inPlace := ["math/bits.Add64"], unfollowed := true, recurses := true, named := ["math/bits.deBruijn64tab"], apart := false, laid := [("math/bits.deBruijn64tab", laid_math_bits_deBruijn64tab)], narrowed := true }
def SystemSlotsUptoSaid : Prop := systemSlotsUptoRow.holds Tryz.pinned (OpenSpec.upto systemSlotsSpec)

/-- 'turnbucklelaw22.SystemNobody', WHERE WHAT IT READS IS OF BULK AT MOST 1048576: true; the input reads as it did. -/
def systemNobodyUptoRow : OpenClaim := { program := "ytcjlhjoobchabaagreatdoor", sum := "5e69ce588fa24e62fd8211e7aaa951f36aae21b711db18687a7b0fa4ee3b6981", func := "turnbuckle/turnbucklelaw22.SystemNobody", spec := "systemNobody", inPlace := ["math/bits.Add64", "internal/abi.NoEscape", "internal/bytealg.MakeNoZero"], unfollowed := true, recurses := true, named := ["math/bits.deBruijn64tab", "internal/strconv.uint64pow10", "math/bits.deBruijn32tab"], apart := false, laid := [("math/bits.deBruijn32tab", laid_math_bits_deBruijn32tab), ("math/bits.deBruijn64tab", laid_math_bits_deBruijn64tab), ("internal/strconv.uint64pow10", laid_internal_strconv_uint64pow10)], narrowed := true }
def SystemNobodyUptoSaid : Prop := systemNobodyUptoRow.holds Tryz.pinned (OpenSpec.upto systemNobodySpec)

end Rows
end Go.Proofs.YtcjlhjoobchabaaGreatDoor
