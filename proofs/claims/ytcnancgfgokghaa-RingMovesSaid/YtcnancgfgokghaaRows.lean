/-
  No cell of these rows narrows 'for every input' (looked for: loops, veiled, ifaces, maps, wideKeys, modest, calm, conditions, laid).
  DERIVED. THE GIVEN ROWS OF THIS SEAT. 5 by the template 'for every input the law returns true; each argument reads behind the call as it read before'; 0 by the template 'total and deterministic' (their statements: YtcnancgfgokghaaTotals.lean).
  GIVEN WITH THE SEED: the statements are not yours to turn. If you find one false, say at which input.
  Laid BY PROGRAM, IN A SANDBOX (cutbox-rows.mjs): the forced cells as the released guide's own fill.sh prints them over the translation bb9dc1e1910c6993… (all of the seat's roots in one cut). By AI agents, Wed Nov 11 2026. No macro, syntax, notation, axiom, sorry.
-/
import Derived.Test.YtcnancgfgokghaaChecked
import GoSem.Claim
import GoSem.ClaimJoined
import GoSem.ClaimMapViews
import Derived.JoinedTies
import Derived.KernelRfl
namespace Go.Proofs.Ytcnancgfgokghaa
/- THE CELL 'sum', in the pinned program and in every row, IS THE sha256 OF THE DUMP (.gsa) THAT YtcnancgfgokghaaProg.lean LOADS. Nothing in Lean hashes anything: it is a label: what it is worth is what the hold of that sum in a sandbox is worth. -/
noncomputable def Try.pinned : Pinned := { name := "ytcnancgfgokghaa", sum := "bb9dc1e1910c69930f4dc09a65fe5b96b30dd41ec0360ceeab1d7594fe76005b", checked := Try.checked }
namespace Rows
def none {H : Type} : Left H := { results := [], args := [] }

/-- 'underwoodlaw17.RingTells': WHATEVER THE INPUT: true; the input reads as it did. -/
def ringTellsSpec : ChangeSpec := { name := "ringTells", fn := fun _ => fun
  | [d1, d2, d3, d4, d5, d6] => { results := [.lit (.bool true)], args := [d1, d2, d3, d4, d5, d6] }
  | _ => none }
def ringTellsRow : OpenClaim := { program := "ytcnancgfgokghaa", sum := "bb9dc1e1910c69930f4dc09a65fe5b96b30dd41ec0360ceeab1d7594fe76005b", func := "underwood/underwoodlaw17.RingTells", spec := "ringTells", unfollowed := true, recurses := true, apart := false }
def RingTellsSaid : Prop := ringTellsRow.holds Try.pinned (OpenSpec.ofChange ringTellsSpec)

/-- ITS FALSE NEIGHBOUR: 'it returns false'. Refute it at one input. -/
def ringTellsWrong : ChangeSpec := { name := "ringTells", fn := fun _ => fun
  | [d1, d2, d3, d4, d5, d6] => { results := [.lit (.bool false)], args := [d1, d2, d3, d4, d5, d6] }
  | _ => none }
def RingTellsWrongFalsely : Prop := ringTellsRow.holds Try.pinned (OpenSpec.ofChange ringTellsWrong)

/-- 'underwoodlaw17.RingRound': WHATEVER THE INPUT: true; the input reads as it did. -/
def ringRoundSpec : ChangeSpec := { name := "ringRound", fn := fun _ => fun
  | [d1, d2, d3, d4, d5, d6] => { results := [.lit (.bool true)], args := [d1, d2, d3, d4, d5, d6] }
  | _ => none }
def ringRoundRow : OpenClaim := { program := "ytcnancgfgokghaa", sum := "bb9dc1e1910c69930f4dc09a65fe5b96b30dd41ec0360ceeab1d7594fe76005b", func := "underwood/underwoodlaw17.RingRound", spec := "ringRound", unfollowed := true, recurses := true, apart := false }
def RingRoundSaid : Prop := ringRoundRow.holds Try.pinned (OpenSpec.ofChange ringRoundSpec)

/-- ITS FALSE NEIGHBOUR: 'it returns false'. Refute it at one input. -/
def ringRoundWrong : ChangeSpec := { name := "ringRound", fn := fun _ => fun
  | [d1, d2, d3, d4, d5, d6] => { results := [.lit (.bool false)], args := [d1, d2, d3, d4, d5, d6] }
  | _ => none }
def RingRoundWrongFalsely : Prop := ringRoundRow.holds Try.pinned (OpenSpec.ofChange ringRoundWrong)

/-- 'underwoodlaw17.RingApart': WHATEVER THE INPUT: true; the input reads as it did. -/
def ringApartSpec : ChangeSpec := { name := "ringApart", fn := fun _ => fun
  | [d1, d2, d3, d4, d5, d6] => { results := [.lit (.bool true)], args := [d1, d2, d3, d4, d5, d6] }
  | _ => none }
def ringApartRow : OpenClaim := { program := "ytcnancgfgokghaa", sum := "bb9dc1e1910c69930f4dc09a65fe5b96b30dd41ec0360ceeab1d7594fe76005b", func := "underwood/underwoodlaw17.RingApart", spec := "ringApart", unfollowed := true, recurses := true, apart := false }
def RingApartSaid : Prop := ringApartRow.holds Try.pinned (OpenSpec.ofChange ringApartSpec)

/-- ITS FALSE NEIGHBOUR: 'it returns false'. Refute it at one input. -/
def ringApartWrong : ChangeSpec := { name := "ringApart", fn := fun _ => fun
  | [d1, d2, d3, d4, d5, d6] => { results := [.lit (.bool false)], args := [d1, d2, d3, d4, d5, d6] }
  | _ => none }
def RingApartWrongFalsely : Prop := ringApartRow.holds Try.pinned (OpenSpec.ofChange ringApartWrong)

/-- 'underwoodlaw17.RingEnough': WHATEVER THE INPUT: true; the input reads as it did. -/
def ringEnoughSpec : ChangeSpec := { name := "ringEnough", fn := fun _ => fun
  | [d1, d2] => { results := [.lit (.bool true)], args := [d1, d2] }
  | _ => none }
def ringEnoughRow : OpenClaim := { program := "ytcnancgfgokghaa", sum := "bb9dc1e1910c69930f4dc09a65fe5b96b30dd41ec0360ceeab1d7594fe76005b", func := "underwood/underwoodlaw17.RingEnough", spec := "ringEnough", unfollowed := true, recurses := true, apart := false }
def RingEnoughSaid : Prop := ringEnoughRow.holds Try.pinned (OpenSpec.ofChange ringEnoughSpec)

/-- ITS FALSE NEIGHBOUR: 'it returns false'. Refute it at one input. -/
def ringEnoughWrong : ChangeSpec := { name := "ringEnough", fn := fun _ => fun
  | [d1, d2] => { results := [.lit (.bool false)], args := [d1, d2] }
  | _ => none }
def RingEnoughWrongFalsely : Prop := ringEnoughRow.holds Try.pinned (OpenSpec.ofChange ringEnoughWrong)

/-- 'underwoodlaw17.RingMoves': WHATEVER THE INPUT: true; the input reads as it did. -/
def ringMovesSpec : ChangeSpec := { name := "ringMoves", fn := fun _ => fun
  | [d1, d2, d3, d4, d5, d6] => { results := [.lit (.bool true)], args := [d1, d2, d3, d4, d5, d6] }
  | _ => none }
def ringMovesRow : OpenClaim := { program := "ytcnancgfgokghaa", sum := "bb9dc1e1910c69930f4dc09a65fe5b96b30dd41ec0360ceeab1d7594fe76005b", func := "underwood/underwoodlaw17.RingMoves", spec := "ringMoves", unfollowed := true, recurses := true, apart := false }
def RingMovesSaid : Prop := ringMovesRow.holds Try.pinned (OpenSpec.ofChange ringMovesSpec)

/-- ITS FALSE NEIGHBOUR: 'it returns false'. Refute it at one input. -/
def ringMovesWrong : ChangeSpec := { name := "ringMoves", fn := fun _ => fun
  | [d1, d2, d3, d4, d5, d6] => { results := [.lit (.bool false)], args := [d1, d2, d3, d4, d5, d6] }
  | _ => none }
def RingMovesWrongFalsely : Prop := ringMovesRow.holds Try.pinned (OpenSpec.ofChange ringMovesWrong)

/- THE SECOND FORM. 'bulk': how many values and letters a reading holds, each counted each time it is reached (what is shared counts as often as it is met; a slice's spare places count too). A statement '..UptoSaid' is the law's where the arguments, and the package variables that the reading takes, are together of bulk at most 1048576: NARROWER than '..Said'. Prove '..Said' where nothing that the law and all that it calls make is longer than what came in: it says more and counts as full. Else prove '..UptoSaid'. A law counts once. -/
mutual
def uptoBulk {H : Type} : DataW H → Nat
  | .lit (.string bytes) => bytes.length + 1
  | .lit _ => 1
  | .nil => 1
  | .ptr d => uptoBulk d + 1
  | .slice elems spare => uptoBulkAll elems + uptoBulkAll spare + 1
  | .agg parts => uptoBulkAll parts + 1
  | .iface _ d => uptoBulk d + 1
  | .map entries => uptoBulkEntries entries + 1
  | .held _ => 1
def uptoBulkAll {H : Type} : List (DataW H) → Nat
  | [] => 0
  | d :: r => uptoBulk d + uptoBulkAll r
def uptoBulkEntries {H : Type} : List (Lit × DataW H) → Nat
  | [] => 0
  | x :: r => uptoBulkEntry x + uptoBulkEntries r
def uptoBulkEntry {H : Type} : Lit × DataW H → Nat
  | (.string bytes, d) => bytes.length + uptoBulk d + 1
  | (_, d) => uptoBulk d + 1
 end
def uptoSmall : (H : Type) → List (DataW H) → Bool := fun _ ds => decide (uptoBulkAll ds ≤ 1048576)
def OpenSpec.upto (s : _root_.Go.ChangeSpec) : _root_.Go.OpenSpec := { _root_.Go.OpenSpec.ofChange s with cond := some uptoSmall }

/-- 'underwoodlaw17.RingTells', WHERE WHAT IT READS IS OF BULK AT MOST 1048576: true; the input reads as it did. -/
def ringTellsUptoRow : OpenClaim := { program := "ytcnancgfgokghaa", sum := "bb9dc1e1910c69930f4dc09a65fe5b96b30dd41ec0360ceeab1d7594fe76005b", func := "underwood/underwoodlaw17.RingTells", spec := "ringTells", unfollowed := true, recurses := true, apart := false, narrowed := true }
def RingTellsUptoSaid : Prop := ringTellsUptoRow.holds Try.pinned (OpenSpec.upto ringTellsSpec)

/-- 'underwoodlaw17.RingRound', WHERE WHAT IT READS IS OF BULK AT MOST 1048576: true; the input reads as it did. -/
def ringRoundUptoRow : OpenClaim := { program := "ytcnancgfgokghaa", sum := "bb9dc1e1910c69930f4dc09a65fe5b96b30dd41ec0360ceeab1d7594fe76005b", func := "underwood/underwoodlaw17.RingRound", spec := "ringRound", unfollowed := true, recurses := true, apart := false, narrowed := true }
def RingRoundUptoSaid : Prop := ringRoundUptoRow.holds Try.pinned (OpenSpec.upto ringRoundSpec)

/-- 'underwoodlaw17.RingApart', WHERE WHAT IT READS IS OF BULK AT MOST 1048576: true; the input reads as it did. -/
def ringApartUptoRow : OpenClaim := { program := "ytcnancgfgokghaa", sum := "bb9dc1e1910c69930f4dc09a65fe5b96b30dd41ec0360ceeab1d7594fe76005b", func := "underwood/underwoodlaw17.RingApart", spec := "ringApart", unfollowed := true, recurses := true, apart := false, narrowed := true }
def RingApartUptoSaid : Prop := ringApartUptoRow.holds Try.pinned (OpenSpec.upto ringApartSpec)

/-- 'underwoodlaw17.RingEnough', WHERE WHAT IT READS IS OF BULK AT MOST 1048576: true; the input reads as it did. -/
def ringEnoughUptoRow : OpenClaim := { program := "ytcnancgfgokghaa", sum := "bb9dc1e1910c69930f4dc09a65fe5b96b30dd41ec0360ceeab1d7594fe76005b", func := "underwood/underwoodlaw17.RingEnough", spec := "ringEnough", unfollowed := true, recurses := true, apart := false, narrowed := true }
def RingEnoughUptoSaid : Prop := ringEnoughUptoRow.holds Try.pinned (OpenSpec.upto ringEnoughSpec)

/-- 'underwoodlaw17.RingMoves', WHERE WHAT IT READS IS OF BULK AT MOST 1048576: true; the input reads as it did. -/
def ringMovesUptoRow : OpenClaim := { program := "ytcnancgfgokghaa", sum := "bb9dc1e1910c69930f4dc09a65fe5b96b30dd41ec0360ceeab1d7594fe76005b", func := "underwood/underwoodlaw17.RingMoves", spec := "ringMoves", unfollowed := true, recurses := true, apart := false, narrowed := true }
def RingMovesUptoSaid : Prop := ringMovesUptoRow.holds Try.pinned (OpenSpec.upto ringMovesSpec)

end Rows
end Go.Proofs.Ytcnancgfgokghaa
