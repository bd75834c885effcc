/-
  No cell of these rows narrows 'for every input' (looked for: loops, veiled, ifaces, maps, wideKeys, modest, calm, conditions, laid).
  DERIVED. THE GIVEN ROWS OF THIS SEAT. 11 by the template 'for every input the law returns true; each argument reads behind the call as it read before'; 0 by the template 'total and deterministic' (their statements: YtfbpnbomcogkcaaTotals.lean).
  GIVEN WITH THE SEED: the statements are not yours to turn. If you find one false, say at which input.
  Laid BY PROGRAM, IN A SANDBOX (cutbox-rows.mjs): the forced cells as the released guide's own fill.sh prints them over the translation ef84776a5a1d8317… (all of the seat's roots in one cut). By AI agents, Wed Nov 11 2026. No macro, syntax, notation, axiom, sorry.
-/
import Derived.Test.YtfbpnbomcogkcaaChecked
import GoSem.Claim
import GoSem.ClaimJoined
import GoSem.ClaimMapViews
import Derived.JoinedTies
import Derived.KernelRfl
namespace Go.Proofs.Ytfbpnbomcogkcaa
/- THE CELL 'sum', in the pinned program and in every row, IS THE sha256 OF THE DUMP (.gsa) THAT YtfbpnbomcogkcaaProg.lean LOADS. Nothing in Lean hashes anything: it is a label: what it is worth is what the hold of that sum in a sandbox is worth. -/
noncomputable def Try.pinned : Pinned := { name := "ytfbpnbomcogkcaa", sum := "ef84776a5a1d8317db02527a018af18dfb5087128b726a535699fc2e4dc269b9", checked := Try.checked }
namespace Rows
def none {H : Type} : Left H := { results := [], args := [] }

/-- 'underwoodlaw03.WirePuts': WHATEVER THE INPUT: true; the input reads as it did. -/
def wirePutsSpec : ChangeSpec := { name := "wirePuts", fn := fun _ => fun
  | [d] => { results := [.lit (.bool true)], args := [d] }
  | _ => none }
def wirePutsRow : OpenClaim := { program := "ytfbpnbomcogkcaa", sum := "ef84776a5a1d8317db02527a018af18dfb5087128b726a535699fc2e4dc269b9", func := "underwood/underwoodlaw03.WirePuts", spec := "wirePuts", unfollowed := true, recurses := true, apart := false }
def WirePutsSaid : Prop := wirePutsRow.holds Try.pinned (OpenSpec.ofChange wirePutsSpec)

/-- ITS FALSE NEIGHBOUR: 'it returns false'. Refute it at one input. -/
def wirePutsWrong : ChangeSpec := { name := "wirePuts", fn := fun _ => fun
  | [d] => { results := [.lit (.bool false)], args := [d] }
  | _ => none }
def WirePutsWrongFalsely : Prop := wirePutsRow.holds Try.pinned (OpenSpec.ofChange wirePutsWrong)

/-- 'underwoodlaw03.WireGets': WHATEVER THE INPUT: true; the input reads as it did. -/
def wireGetsSpec : ChangeSpec := { name := "wireGets", fn := fun _ => fun
  | [d] => { results := [.lit (.bool true)], args := [d] }
  | _ => none }
def wireGetsRow : OpenClaim := { program := "ytfbpnbomcogkcaa", sum := "ef84776a5a1d8317db02527a018af18dfb5087128b726a535699fc2e4dc269b9", func := "underwood/underwoodlaw03.WireGets", spec := "wireGets", unfollowed := true, recurses := true, apart := false }
def WireGetsSaid : Prop := wireGetsRow.holds Try.pinned (OpenSpec.ofChange wireGetsSpec)

/-- ITS FALSE NEIGHBOUR: 'it returns false'. Refute it at one input. -/
def wireGetsWrong : ChangeSpec := { name := "wireGets", fn := fun _ => fun
  | [d] => { results := [.lit (.bool false)], args := [d] }
  | _ => none }
def WireGetsWrongFalsely : Prop := wireGetsRow.holds Try.pinned (OpenSpec.ofChange wireGetsWrong)

/-- 'underwoodlaw03.WireBack': WHATEVER THE INPUT: true; the input reads as it did. -/
def wireBackSpec : ChangeSpec := { name := "wireBack", fn := fun _ => fun
  | [d1, d2] => { results := [.lit (.bool true)], args := [d1, d2] }
  | _ => none }
def wireBackRow : OpenClaim := { program := "ytfbpnbomcogkcaa", sum := "ef84776a5a1d8317db02527a018af18dfb5087128b726a535699fc2e4dc269b9", func := "underwood/underwoodlaw03.WireBack", spec := "wireBack", unfollowed := true, recurses := true, apart := false }
def WireBackSaid : Prop := wireBackRow.holds Try.pinned (OpenSpec.ofChange wireBackSpec)

/-- ITS FALSE NEIGHBOUR: 'it returns false'. Refute it at one input. -/
def wireBackWrong : ChangeSpec := { name := "wireBack", fn := fun _ => fun
  | [d1, d2] => { results := [.lit (.bool false)], args := [d1, d2] }
  | _ => none }
def WireBackWrongFalsely : Prop := wireBackRow.holds Try.pinned (OpenSpec.ofChange wireBackWrong)

/-- 'underwoodlaw03.WireOnce': WHATEVER THE INPUT: true; the input reads as it did. -/
def wireOnceSpec : ChangeSpec := { name := "wireOnce", fn := fun _ => fun
  | [d] => { results := [.lit (.bool true)], args := [d] }
  | _ => none }
def wireOnceRow : OpenClaim := { program := "ytfbpnbomcogkcaa", sum := "ef84776a5a1d8317db02527a018af18dfb5087128b726a535699fc2e4dc269b9", func := "underwood/underwoodlaw03.WireOnce", spec := "wireOnce", unfollowed := true, recurses := true, apart := false }
def WireOnceSaid : Prop := wireOnceRow.holds Try.pinned (OpenSpec.ofChange wireOnceSpec)

/-- ITS FALSE NEIGHBOUR: 'it returns false'. Refute it at one input. -/
def wireOnceWrong : ChangeSpec := { name := "wireOnce", fn := fun _ => fun
  | [d] => { results := [.lit (.bool false)], args := [d] }
  | _ => none }
def WireOnceWrongFalsely : Prop := wireOnceRow.holds Try.pinned (OpenSpec.ofChange wireOnceWrong)

/-- 'underwoodlaw03.WireTexts': WHATEVER THE INPUT: true; the input reads as it did. -/
def wireTextsSpec : ChangeSpec := { name := "wireTexts", fn := fun _ => fun
  | [d1, d2] => { results := [.lit (.bool true)], args := [d1, d2] }
  | _ => none }
def wireTextsRow : OpenClaim := { program := "ytfbpnbomcogkcaa", sum := "ef84776a5a1d8317db02527a018af18dfb5087128b726a535699fc2e4dc269b9", func := "underwood/underwoodlaw03.WireTexts", spec := "wireTexts", unfollowed := true, recurses := true, apart := false }
def WireTextsSaid : Prop := wireTextsRow.holds Try.pinned (OpenSpec.ofChange wireTextsSpec)

/-- ITS FALSE NEIGHBOUR: 'it returns false'. Refute it at one input. -/
def wireTextsWrong : ChangeSpec := { name := "wireTexts", fn := fun _ => fun
  | [d1, d2] => { results := [.lit (.bool false)], args := [d1, d2] }
  | _ => none }
def WireTextsWrongFalsely : Prop := wireTextsRow.holds Try.pinned (OpenSpec.ofChange wireTextsWrong)

/-- 'underwoodlaw03.WireRows': WHATEVER THE INPUT: true; the input reads as it did. -/
def wireRowsSpec : ChangeSpec := { name := "wireRows", fn := fun _ => fun
  | [d1, d2] => { results := [.lit (.bool true)], args := [d1, d2] }
  | _ => none }
def wireRowsRow : OpenClaim := { program := "ytfbpnbomcogkcaa", sum := "ef84776a5a1d8317db02527a018af18dfb5087128b726a535699fc2e4dc269b9", func := "underwood/underwoodlaw03.WireRows", spec := "wireRows", unfollowed := true, recurses := true, apart := false }
def WireRowsSaid : Prop := wireRowsRow.holds Try.pinned (OpenSpec.ofChange wireRowsSpec)

/-- ITS FALSE NEIGHBOUR: 'it returns false'. Refute it at one input. -/
def wireRowsWrong : ChangeSpec := { name := "wireRows", fn := fun _ => fun
  | [d1, d2] => { results := [.lit (.bool false)], args := [d1, d2] }
  | _ => none }
def WireRowsWrongFalsely : Prop := wireRowsRow.holds Try.pinned (OpenSpec.ofChange wireRowsWrong)

/-- 'underwoodlaw03.WireApart': WHATEVER THE INPUT: true; the input reads as it did. -/
def wireApartSpec : ChangeSpec := { name := "wireApart", fn := fun _ => fun
  | [d1, d2] => { results := [.lit (.bool true)], args := [d1, d2] }
  | _ => none }
def wireApartRow : OpenClaim := { program := "ytfbpnbomcogkcaa", sum := "ef84776a5a1d8317db02527a018af18dfb5087128b726a535699fc2e4dc269b9", func := "underwood/underwoodlaw03.WireApart", spec := "wireApart", unfollowed := true, recurses := true, apart := false }
def WireApartSaid : Prop := wireApartRow.holds Try.pinned (OpenSpec.ofChange wireApartSpec)

/-- ITS FALSE NEIGHBOUR: 'it returns false'. Refute it at one input. -/
def wireApartWrong : ChangeSpec := { name := "wireApart", fn := fun _ => fun
  | [d1, d2] => { results := [.lit (.bool false)], args := [d1, d2] }
  | _ => none }
def WireApartWrongFalsely : Prop := wireApartRow.holds Try.pinned (OpenSpec.ofChange wireApartWrong)

/-- 'underwoodlaw03.WireTwo': WHATEVER THE INPUT: true; the input reads as it did. -/
def wireTwoSpec : ChangeSpec := { name := "wireTwo", fn := fun _ => fun
  | [d1, d2] => { results := [.lit (.bool true)], args := [d1, d2] }
  | _ => none }
def wireTwoRow : OpenClaim := { program := "ytfbpnbomcogkcaa", sum := "ef84776a5a1d8317db02527a018af18dfb5087128b726a535699fc2e4dc269b9", func := "underwood/underwoodlaw03.WireTwo", spec := "wireTwo", unfollowed := true, recurses := true, apart := false }
def WireTwoSaid : Prop := wireTwoRow.holds Try.pinned (OpenSpec.ofChange wireTwoSpec)

/-- ITS FALSE NEIGHBOUR: 'it returns false'. Refute it at one input. -/
def wireTwoWrong : ChangeSpec := { name := "wireTwo", fn := fun _ => fun
  | [d1, d2] => { results := [.lit (.bool false)], args := [d1, d2] }
  | _ => none }
def WireTwoWrongFalsely : Prop := wireTwoRow.holds Try.pinned (OpenSpec.ofChange wireTwoWrong)

/-- 'underwoodlaw03.WireSums': WHATEVER THE INPUT: true; the input reads as it did. -/
def wireSumsSpec : ChangeSpec := { name := "wireSums", fn := fun _ => fun
  | [d] => { results := [.lit (.bool true)], args := [d] }
  | _ => none }
def wireSumsRow : OpenClaim := { program := "ytfbpnbomcogkcaa", sum := "ef84776a5a1d8317db02527a018af18dfb5087128b726a535699fc2e4dc269b9", func := "underwood/underwoodlaw03.WireSums", spec := "wireSums", unfollowed := true, recurses := true, apart := false }
def WireSumsSaid : Prop := wireSumsRow.holds Try.pinned (OpenSpec.ofChange wireSumsSpec)

/-- ITS FALSE NEIGHBOUR: 'it returns false'. Refute it at one input. -/
def wireSumsWrong : ChangeSpec := { name := "wireSums", fn := fun _ => fun
  | [d] => { results := [.lit (.bool false)], args := [d] }
  | _ => none }
def WireSumsWrongFalsely : Prop := wireSumsRow.holds Try.pinned (OpenSpec.ofChange wireSumsWrong)

/-- 'underwoodlaw03.WireSeals': WHATEVER THE INPUT: true; the input reads as it did. -/
def wireSealsSpec : ChangeSpec := { name := "wireSeals", fn := fun _ => fun
  | [d1, d2] => { results := [.lit (.bool true)], args := [d1, d2] }
  | _ => none }
def wireSealsRow : OpenClaim := { program := "ytfbpnbomcogkcaa", sum := "ef84776a5a1d8317db02527a018af18dfb5087128b726a535699fc2e4dc269b9", func := "underwood/underwoodlaw03.WireSeals", spec := "wireSeals", unfollowed := true, recurses := true, apart := false }
def WireSealsSaid : Prop := wireSealsRow.holds Try.pinned (OpenSpec.ofChange wireSealsSpec)

/-- ITS FALSE NEIGHBOUR: 'it returns false'. Refute it at one input. -/
def wireSealsWrong : ChangeSpec := { name := "wireSeals", fn := fun _ => fun
  | [d1, d2] => { results := [.lit (.bool false)], args := [d1, d2] }
  | _ => none }
def WireSealsWrongFalsely : Prop := wireSealsRow.holds Try.pinned (OpenSpec.ofChange wireSealsWrong)

/-- 'underwoodlaw03.WireTurned': WHATEVER THE INPUT: true; the input reads as it did. -/
def wireTurnedSpec : ChangeSpec := { name := "wireTurned", fn := fun _ => fun
  | [d1, d2, d3, d4] => { results := [.lit (.bool true)], args := [d1, d2, d3, d4] }
  | _ => none }
def wireTurnedRow : OpenClaim := { program := "ytfbpnbomcogkcaa", sum := "ef84776a5a1d8317db02527a018af18dfb5087128b726a535699fc2e4dc269b9", func := "underwood/underwoodlaw03.WireTurned", spec := "wireTurned", unfollowed := true, recurses := true, apart := false }
def WireTurnedSaid : Prop := wireTurnedRow.holds Try.pinned (OpenSpec.ofChange wireTurnedSpec)

/-- ITS FALSE NEIGHBOUR: 'it returns false'. Refute it at one input. -/
def wireTurnedWrong : ChangeSpec := { name := "wireTurned", fn := fun _ => fun
  | [d1, d2, d3, d4] => { results := [.lit (.bool false)], args := [d1, d2, d3, d4] }
  | _ => none }
def WireTurnedWrongFalsely : Prop := wireTurnedRow.holds Try.pinned (OpenSpec.ofChange wireTurnedWrong)

/- THE SECOND FORM. 'bulk': how many values and letters a reading holds, each counted each time it is reached (what is shared counts as often as it is met; a slice's spare places count too). A statement '..UptoSaid' is the law's where the arguments, and the package variables that the reading takes, are together of bulk at most 1048576: NARROWER than '..Said'. Prove '..Said' where nothing that the law and all that it calls make is longer than what came in: it says more and counts as full. Else prove '..UptoSaid'. A law counts once. -/
mutual
def uptoBulk {H : Type} : DataW H → Nat
  | .lit (.string bytes) => bytes.length + 1
  | .lit _ => 1
  | .nil => 1
  | .ptr d => uptoBulk d + 1
  | .slice elems spare => uptoBulkAll elems + uptoBulkAll spare + 1
  | .agg parts => uptoBulkAll parts + 1
  | .iface _ d => uptoBulk d + 1
  | .map entries => uptoBulkEntries entries + 1
  | .held _ => 1
def uptoBulkAll {H : Type} : List (DataW H) → Nat
  | [] => 0
  | d :: r => uptoBulk d + uptoBulkAll r
def uptoBulkEntries {H : Type} : List (Lit × DataW H) → Nat
  | [] => 0
  | x :: r => uptoBulkEntry x + uptoBulkEntries r
def uptoBulkEntry {H : Type} : Lit × DataW H → Nat
  | (.string bytes, d) => bytes.length + uptoBulk d + 1
  | (_, d) => uptoBulk d + 1
 end
def uptoSmall : (H : Type) → List (DataW H) → Bool := fun _ ds => decide (uptoBulkAll ds ≤ 1048576)
def OpenSpec.upto (s : _root_.Go.ChangeSpec) : _root_.Go.OpenSpec := { _root_.Go.OpenSpec.ofChange s with cond := some uptoSmall }

/-- 'underwoodlaw03.WirePuts', WHERE WHAT IT READS IS OF BULK AT MOST 1048576: true; the input reads as it did. -/
def wirePutsUptoRow : OpenClaim := { program := "ytfbpnbomcogkcaa", sum := "ef84776a5a1d8317db02527a018af18dfb5087128b726a535699fc2e4dc269b9", func := "underwood/underwoodlaw03.WirePuts", spec := "wirePuts", unfollowed := true, recurses := true, apart := false, narrowed := true }
def WirePutsUptoSaid : Prop := wirePutsUptoRow.holds Try.pinned (OpenSpec.upto wirePutsSpec)

/-- 'underwoodlaw03.WireGets', WHERE WHAT IT READS IS OF BULK AT MOST 1048576: true; the input reads as it did. -/
def wireGetsUptoRow : OpenClaim := { program := "ytfbpnbomcogkcaa", sum := "ef84776a5a1d8317db02527a018af18dfb5087128b726a535699fc2e4dc269b9", func := "underwood/underwoodlaw03.WireGets", spec := "wireGets", unfollowed := true, recurses := true, apart := false, narrowed := true }
def WireGetsUptoSaid : Prop := wireGetsUptoRow.holds Try.pinned (OpenSpec.upto wireGetsSpec)

/-- 'underwoodlaw03.WireBack', WHERE WHAT IT READS IS OF BULK AT MOST 1048576: true; the input reads as it did. -/
def wireBackUptoRow : OpenClaim := { program := "ytfbpnbomcogkcaa", sum := "ef84776a5a1d8317db02527a018af18dfb5087128b726a535699fc2e4dc269b9", func := "underwood/underwoodlaw03.WireBack", spec := "wireBack", unfollowed := true, recurses := true, apart := false, narrowed := true }
def WireBackUptoSaid : Prop := wireBackUptoRow.holds Try.pinned (OpenSpec.upto wireBackSpec)

/-- 'underwoodlaw03.WireOnce', WHERE WHAT IT READS IS OF BULK AT MOST 1048576: true; the input reads as it did. -/
def wireOnceUptoRow : OpenClaim := { program := "ytfbpnbomcogkcaa", sum := "ef84776a5a1d8317db02527a018af18dfb5087128b726a535699fc2e4dc269b9", func := "underwood/underwoodlaw03.WireOnce", spec := "wireOnce", unfollowed := true, recurses := true, apart := false, narrowed := true }
def WireOnceUptoSaid : Prop := wireOnceUptoRow.holds Try.pinned (OpenSpec.upto wireOnceSpec)

/-- 'underwoodlaw03.WireTexts', WHERE WHAT IT READS IS OF BULK AT MOST 1048576: true; the input reads as it did. -/
def wireTextsUptoRow : OpenClaim := { program := "ytfbpnbomcogkcaa", sum := "ef84776a5a1d8317db02527a018af18dfb5087128b726a535699fc2e4dc269b9", func := "underwood/underwoodlaw03.WireTexts", spec := "wireTexts", unfollowed := true, recurses := true, apart := false, narrowed := true }
def WireTextsUptoSaid : Prop := wireTextsUptoRow.holds Try.pinned (OpenSpec.upto wireTextsSpec)

/-- 'underwoodlaw03.WireRows', WHERE WHAT IT READS IS OF BULK AT MOST 1048576: true; the input reads as it did. -/
def wireRowsUptoRow : OpenClaim := { program := "ytfbpnbomcogkcaa", sum := "ef84776a5a1d8317db02527a018af18dfb5087128b726a535699fc2e4dc269b9", func := "underwood/underwoodlaw03.WireRows", spec := "wireRows", unfollowed := true, recurses := true, apart := false, narrowed := true }
def WireRowsUptoSaid : Prop := wireRowsUptoRow.holds Try.pinned (OpenSpec.upto wireRowsSpec)

/-- 'underwoodlaw03.WireApart', WHERE WHAT IT READS IS OF BULK AT MOST 1048576: true; the input reads as it did. -/
def wireApartUptoRow : OpenClaim := { program := "ytfbpnbomcogkcaa", sum := "ef84776a5a1d8317db02527a018af18dfb5087128b726a535699fc2e4dc269b9", func := "underwood/underwoodlaw03.WireApart", spec := "wireApart", unfollowed := true, recurses := true, apart := false, narrowed := true }
def WireApartUptoSaid : Prop := wireApartUptoRow.holds Try.pinned (OpenSpec.upto wireApartSpec)

/-- 'underwoodlaw03.WireTwo', WHERE WHAT IT READS IS OF BULK AT MOST 1048576: true; the input reads as it did. -/
def wireTwoUptoRow : OpenClaim := { program := "ytfbpnbomcogkcaa", sum := "ef84776a5a1d8317db02527a018af18dfb5087128b726a535699fc2e4dc269b9", func := "underwood/underwoodlaw03.WireTwo", spec := "wireTwo", unfollowed := true, recurses := true, apart := false, narrowed := true }
def WireTwoUptoSaid : Prop := wireTwoUptoRow.holds Try.pinned (OpenSpec.upto wireTwoSpec)

/-- 'underwoodlaw03.WireSums', WHERE WHAT IT READS IS OF BULK AT MOST 1048576: true; the input reads as it did. -/
def wireSumsUptoRow : OpenClaim := { program := "ytfbpnbomcogkcaa", sum := "ef84776a5a1d8317db02527a018af18dfb5087128b726a535699fc2e4dc269b9", func := "underwood/underwoodlaw03.WireSums", spec := "wireSums", unfollowed := true, recurses := true, apart := false, narrowed := true }
def WireSumsUptoSaid : Prop := wireSumsUptoRow.holds Try.pinned (OpenSpec.upto wireSumsSpec)

/-- 'underwoodlaw03.WireSeals', WHERE WHAT IT READS IS OF BULK AT MOST 1048576: true; the input reads as it did. -/
def wireSealsUptoRow : OpenClaim := { program := "ytfbpnbomcogkcaa", sum := "ef84776a5a1d8317db02527a018af18dfb5087128b726a535699fc2e4dc269b9", func := "underwood/underwoodlaw03.WireSeals", spec := "wireSeals", unfollowed := true, recurses := true, apart := false, narrowed := true }
def WireSealsUptoSaid : Prop := wireSealsUptoRow.holds Try.pinned (OpenSpec.upto wireSealsSpec)

/-- 'underwoodlaw03.WireTurned', WHERE WHAT IT READS IS OF BULK AT MOST 1048576: true; the input reads as it did. -/
def wireTurnedUptoRow : OpenClaim := { program := "ytfbpnbomcogkcaa", sum := "ef84776a5a1d8317db02527a018af18dfb5087128b726a535699fc2e4dc269b9", func := "underwood/underwoodlaw03.WireTurned", spec := "wireTurned", unfollowed := true, recurses := true, apart := false, narrowed := true }
def WireTurnedUptoSaid : Prop := wireTurnedUptoRow.holds Try.pinned (OpenSpec.upto wireTurnedSpec)

end Rows
end Go.Proofs.Ytfbpnbomcogkcaa
