/-
  No cell of these rows narrows 'for every input' (looked for: loops, veiled, ifaces, maps, wideKeys, modest, calm, conditions, laid).
  DERIVED. THE GIVEN ROWS OF THIS SEAT. 6 by the template 'for every input the law returns true; each argument reads behind the call as it read before'; 0 by the template 'total and deterministic' (their statements: YtilfhbpehgklbaaTotals.lean).
  GIVEN WITH THE SEED: the statements are not yours to turn. If you find one false, say at which input.
  Laid BY PROGRAM, IN A SANDBOX (cutbox-rows.mjs): the forced cells as the released guide's own fill.sh prints them over the translation 25ff1afb83dd00dd… (all of the seat's roots in one cut). By AI agents, Wed Nov 11 2026. No macro, syntax, notation, axiom, sorry.
-/
import Derived.Test.YtilfhbpehgklbaaChecked
import GoSem.Claim
import GoSem.ClaimJoined
import GoSem.ClaimMapViews
import Derived.JoinedTies
import Derived.KernelRfl
namespace Go.Proofs.Ytilfhbpehgklbaa
/- THE CELL 'sum', in the pinned program and in every row, IS THE sha256 OF THE DUMP (.gsa) THAT YtilfhbpehgklbaaProg.lean LOADS. Nothing in Lean hashes anything: it is a label: what it is worth is what the hold of that sum in a sandbox is worth. -/
noncomputable def Try.pinned : Pinned := { name := "ytilfhbpehgklbaa", sum := "25ff1afb83dd00dd081fc9d42a982969a083be2a3f3208be661d7f33a75d411a", checked := Try.checked }
namespace Rows
def none {H : Type} : Left H := { results := [], args := [] }

/-- 'underwoodlaw14.LayoutRight': WHATEVER THE INPUT: true; the input reads as it did. -/
def layoutRightSpec : ChangeSpec := { name := "layoutRight", fn := fun _ => fun
  | [d1, d2, d3] => { results := [.lit (.bool true)], args := [d1, d2, d3] }
  | _ => none }
def layoutRightRow : OpenClaim := { program := "ytilfhbpehgklbaa", sum := "25ff1afb83dd00dd081fc9d42a982969a083be2a3f3208be661d7f33a75d411a", func := "underwood/underwoodlaw14.LayoutRight", spec := "layoutRight", unfollowed := true, recurses := true, apart := false }
def LayoutRightSaid : Prop := layoutRightRow.holds Try.pinned (OpenSpec.ofChange layoutRightSpec)

/-- ITS FALSE NEIGHBOUR: 'it returns false'. Refute it at one input. -/
def layoutRightWrong : ChangeSpec := { name := "layoutRight", fn := fun _ => fun
  | [d1, d2, d3] => { results := [.lit (.bool false)], args := [d1, d2, d3] }
  | _ => none }
def LayoutRightWrongFalsely : Prop := layoutRightRow.holds Try.pinned (OpenSpec.ofChange layoutRightWrong)

/-- 'underwoodlaw14.LayoutEnough': WHATEVER THE INPUT: true; the input reads as it did. -/
def layoutEnoughSpec : ChangeSpec := { name := "layoutEnough", fn := fun _ => fun
  | [d] => { results := [.lit (.bool true)], args := [d] }
  | _ => none }
def layoutEnoughRow : OpenClaim := { program := "ytilfhbpehgklbaa", sum := "25ff1afb83dd00dd081fc9d42a982969a083be2a3f3208be661d7f33a75d411a", func := "underwood/underwoodlaw14.LayoutEnough", spec := "layoutEnough", unfollowed := true, recurses := true, apart := false }
def LayoutEnoughSaid : Prop := layoutEnoughRow.holds Try.pinned (OpenSpec.ofChange layoutEnoughSpec)

/-- ITS FALSE NEIGHBOUR: 'it returns false'. Refute it at one input. -/
def layoutEnoughWrong : ChangeSpec := { name := "layoutEnough", fn := fun _ => fun
  | [d] => { results := [.lit (.bool false)], args := [d] }
  | _ => none }
def LayoutEnoughWrongFalsely : Prop := layoutEnoughRow.holds Try.pinned (OpenSpec.ofChange layoutEnoughWrong)

/-- 'underwoodlaw14.LayoutMore': WHATEVER THE INPUT: true; the input reads as it did. -/
def layoutMoreSpec : ChangeSpec := { name := "layoutMore", fn := fun _ => fun
  | [d] => { results := [.lit (.bool true)], args := [d] }
  | _ => none }
def layoutMoreRow : OpenClaim := { program := "ytilfhbpehgklbaa", sum := "25ff1afb83dd00dd081fc9d42a982969a083be2a3f3208be661d7f33a75d411a", func := "underwood/underwoodlaw14.LayoutMore", spec := "layoutMore", unfollowed := true, recurses := true, apart := false }
def LayoutMoreSaid : Prop := layoutMoreRow.holds Try.pinned (OpenSpec.ofChange layoutMoreSpec)

/-- ITS FALSE NEIGHBOUR: 'it returns false'. Refute it at one input. -/
def layoutMoreWrong : ChangeSpec := { name := "layoutMore", fn := fun _ => fun
  | [d] => { results := [.lit (.bool false)], args := [d] }
  | _ => none }
def LayoutMoreWrongFalsely : Prop := layoutMoreRow.holds Try.pinned (OpenSpec.ofChange layoutMoreWrong)

/-- 'underwoodlaw14.LayoutRings': WHATEVER THE INPUT: true; the input reads as it did. -/
def layoutRingsSpec : ChangeSpec := { name := "layoutRings", fn := fun _ => fun
  | [d1, d2] => { results := [.lit (.bool true)], args := [d1, d2] }
  | _ => none }
def layoutRingsRow : OpenClaim := { program := "ytilfhbpehgklbaa", sum := "25ff1afb83dd00dd081fc9d42a982969a083be2a3f3208be661d7f33a75d411a", func := "underwood/underwoodlaw14.LayoutRings", spec := "layoutRings", unfollowed := true, recurses := true, apart := false }
def LayoutRingsSaid : Prop := layoutRingsRow.holds Try.pinned (OpenSpec.ofChange layoutRingsSpec)

/-- ITS FALSE NEIGHBOUR: 'it returns false'. Refute it at one input. -/
def layoutRingsWrong : ChangeSpec := { name := "layoutRings", fn := fun _ => fun
  | [d1, d2] => { results := [.lit (.bool false)], args := [d1, d2] }
  | _ => none }
def LayoutRingsWrongFalsely : Prop := layoutRingsRow.holds Try.pinned (OpenSpec.ofChange layoutRingsWrong)

/-- 'underwoodlaw14.LayoutTells': WHATEVER THE INPUT: true; the input reads as it did. -/
def layoutTellsSpec : ChangeSpec := { name := "layoutTells", fn := fun _ => fun
  | [d1, d2, d3] => { results := [.lit (.bool true)], args := [d1, d2, d3] }
  | _ => none }
def layoutTellsRow : OpenClaim := { program := "ytilfhbpehgklbaa", sum := "25ff1afb83dd00dd081fc9d42a982969a083be2a3f3208be661d7f33a75d411a", func := "underwood/underwoodlaw14.LayoutTells", spec := "layoutTells", unfollowed := true, recurses := true, apart := false }
def LayoutTellsSaid : Prop := layoutTellsRow.holds Try.pinned (OpenSpec.ofChange layoutTellsSpec)

/-- ITS FALSE NEIGHBOUR: 'it returns false'. Refute it at one input. -/
def layoutTellsWrong : ChangeSpec := { name := "layoutTells", fn := fun _ => fun
  | [d1, d2, d3] => { results := [.lit (.bool false)], args := [d1, d2, d3] }
  | _ => none }
def LayoutTellsWrongFalsely : Prop := layoutTellsRow.holds Try.pinned (OpenSpec.ofChange layoutTellsWrong)

/-- 'underwoodlaw14.LayoutApart': WHATEVER THE INPUT: true; the input reads as it did. -/
def layoutApartSpec : ChangeSpec := { name := "layoutApart", fn := fun _ => fun
  | [d] => { results := [.lit (.bool true)], args := [d] }
  | _ => none }
def layoutApartRow : OpenClaim := { program := "ytilfhbpehgklbaa", sum := "25ff1afb83dd00dd081fc9d42a982969a083be2a3f3208be661d7f33a75d411a", func := "underwood/underwoodlaw14.LayoutApart", spec := "layoutApart", unfollowed := true, recurses := true, apart := false }
def LayoutApartSaid : Prop := layoutApartRow.holds Try.pinned (OpenSpec.ofChange layoutApartSpec)

/-- ITS FALSE NEIGHBOUR: 'it returns false'. Refute it at one input. -/
def layoutApartWrong : ChangeSpec := { name := "layoutApart", fn := fun _ => fun
  | [d] => { results := [.lit (.bool false)], args := [d] }
  | _ => none }
def LayoutApartWrongFalsely : Prop := layoutApartRow.holds Try.pinned (OpenSpec.ofChange layoutApartWrong)

/- THE SECOND FORM. 'bulk': how many values and letters a reading holds, each counted each time it is reached (what is shared counts as often as it is met; a slice's spare places count too). A statement '..UptoSaid' is the law's where the arguments, and the package variables that the reading takes, are together of bulk at most 1048576: NARROWER than '..Said'. Prove '..Said' where nothing that the law and all that it calls make is longer than what came in: it says more and counts as full. Else prove '..UptoSaid'. A law counts once. -/
mutual
def uptoBulk {H : Type} : DataW H → Nat
  | .lit (.string bytes) => bytes.length + 1
  | .lit _ => 1
  | .nil => 1
  | .ptr d => uptoBulk d + 1
  | .slice elems spare => uptoBulkAll elems + uptoBulkAll spare + 1
  | .agg parts => uptoBulkAll parts + 1
  | .iface _ d => uptoBulk d + 1
  | .map entries => uptoBulkEntries entries + 1
  | .held _ => 1
def uptoBulkAll {H : Type} : List (DataW H) → Nat
  | [] => 0
  | d :: r => uptoBulk d + uptoBulkAll r
def uptoBulkEntries {H : Type} : List (Lit × DataW H) → Nat
  | [] => 0
  | x :: r => uptoBulkEntry x + uptoBulkEntries r
def uptoBulkEntry {H : Type} : Lit × DataW H → Nat
  | (.string bytes, d) => bytes.length + uptoBulk d + 1
  | (_, d) => uptoBulk d + 1
 end
def uptoSmall : (H : Type) → List (DataW H) → Bool := fun _ ds => decide (uptoBulkAll ds ≤ 1048576)
def OpenSpec.upto (s : _root_.Go.ChangeSpec) : _root_.Go.OpenSpec := { _root_.Go.OpenSpec.ofChange s with cond := some uptoSmall }

/-- 'underwoodlaw14.LayoutRight', WHERE WHAT IT READS IS OF BULK AT MOST 1048576: true; the input reads as it did. -/
def layoutRightUptoRow : OpenClaim := { program := "ytilfhbpehgklbaa", sum := "25ff1afb83dd00dd081fc9d42a982969a083be2a3f3208be661d7f33a75d411a", func := "underwood/underwoodlaw14.LayoutRight", spec := "layoutRight", unfollowed := true, recurses := true, apart := false, narrowed := true }
def LayoutRightUptoSaid : Prop := layoutRightUptoRow.holds Try.pinned (OpenSpec.upto layoutRightSpec)

/-- 'underwoodlaw14.LayoutEnough', WHERE WHAT IT READS IS OF BULK AT MOST 1048576: true; the input reads as it did. -/
def layoutEnoughUptoRow : OpenClaim := { program := "ytilfhbpehgklbaa", sum := "25ff1afb83dd00dd081fc9d42a982969a083be2a3f3208be661d7f33a75d411a", func := "underwood/underwoodlaw14.LayoutEnough", spec := "layoutEnough", unfollowed := true, recurses := true, apart := false, narrowed := true }
def LayoutEnoughUptoSaid : Prop := layoutEnoughUptoRow.holds Try.pinned (OpenSpec.upto layoutEnoughSpec)

/-- 'underwoodlaw14.LayoutMore', WHERE WHAT IT READS IS OF BULK AT MOST 1048576: true; the input reads as it did. -/
def layoutMoreUptoRow : OpenClaim := { program := "ytilfhbpehgklbaa", sum := "25ff1afb83dd00dd081fc9d42a982969a083be2a3f3208be661d7f33a75d411a", func := "underwood/underwoodlaw14.LayoutMore", spec := "layoutMore", unfollowed := true, recurses := true, apart := false, narrowed := true }
def LayoutMoreUptoSaid : Prop := layoutMoreUptoRow.holds Try.pinned (OpenSpec.upto layoutMoreSpec)

/-- 'underwoodlaw14.LayoutRings', WHERE WHAT IT READS IS OF BULK AT MOST 1048576: true; the input reads as it did. -/
def layoutRingsUptoRow : OpenClaim := { program := "ytilfhbpehgklbaa", sum := "25ff1afb83dd00dd081fc9d42a982969a083be2a3f3208be661d7f33a75d411a", func := "underwood/underwoodlaw14.LayoutRings", spec := "layoutRings", unfollowed := true, recurses := true, apart := false, narrowed := true }
def LayoutRingsUptoSaid : Prop := layoutRingsUptoRow.holds Try.pinned (OpenSpec.upto layoutRingsSpec)

/-- 'underwoodlaw14.LayoutTells', WHERE WHAT IT READS IS OF BULK AT MOST 1048576: true; the input reads as it did. -/
def layoutTellsUptoRow : OpenClaim := { program := "ytilfhbpehgklbaa", sum := "25ff1afb83dd00dd081fc9d42a982969a083be2a3f3208be661d7f33a75d411a", func := "underwood/underwoodlaw14.LayoutTells", spec := "layoutTells", unfollowed := true, recurses := true, apart := false, narrowed := true }
def LayoutTellsUptoSaid : Prop := layoutTellsUptoRow.holds Try.pinned (OpenSpec.upto layoutTellsSpec)

/-- 'underwoodlaw14.LayoutApart', WHERE WHAT IT READS IS OF BULK AT MOST 1048576: true; the input reads as it did. -/
def layoutApartUptoRow : OpenClaim := { program := "ytilfhbpehgklbaa", sum := "25ff1afb83dd00dd081fc9d42a982969a083be2a3f3208be661d7f33a75d411a", func := "underwood/underwoodlaw14.LayoutApart", spec := "layoutApart", unfollowed := true, recurses := true, apart := false, narrowed := true }
def LayoutApartUptoSaid : Prop := layoutApartUptoRow.holds Try.pinned (OpenSpec.upto layoutApartSpec)

end Rows
end Go.Proofs.Ytilfhbpehgklbaa
