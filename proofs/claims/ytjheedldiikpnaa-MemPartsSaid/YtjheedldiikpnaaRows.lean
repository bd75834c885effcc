/-
  No cell of these rows narrows 'for every input' (looked for: loops, veiled, ifaces, maps, wideKeys, modest, calm, conditions, laid).
  DERIVED. THE GIVEN ROWS OF THIS SEAT. 7 by the template 'for every input the law returns true; each argument reads behind the call as it read before'; 0 by the template 'total and deterministic' (their statements: YtjheedldiikpnaaTotals.lean).
  GIVEN WITH THE SEED: the statements are not yours to turn. If you find one false, say at which input.
  Laid BY PROGRAM, IN A SANDBOX (cutbox-rows.mjs): the forced cells as the released guide's own fill.sh prints them over the translation 702dc781482ea2b0… (all of the seat's roots in one cut). By AI agents, Wed Nov 11 2026. No macro, syntax, notation, axiom, sorry.
-/
import Derived.Test.YtjheedldiikpnaaChecked
import GoSem.Claim
import GoSem.ClaimJoined
import GoSem.ClaimMapViews
import Derived.JoinedTies
import Derived.KernelRfl
namespace Go.Proofs.Ytjheedldiikpnaa
/- THE CELL 'sum', in the pinned program and in every row, IS THE sha256 OF THE DUMP (.gsa) THAT YtjheedldiikpnaaProg.lean LOADS. Nothing in Lean hashes anything: it is a label: what it is worth is what the hold of that sum in a sandbox is worth. -/
noncomputable def Try.pinned : Pinned := { name := "ytjheedldiikpnaa", sum := "702dc781482ea2b04378e73c20b06a8d5ca2afbd119341835ff3d69ec06e09ec", checked := Try.checked }
namespace Rows
def none {H : Type} : Left H := { results := [], args := [] }

/-- 'underwoodlaw02.MemTells': WHATEVER THE INPUT: true; the input reads as it did. -/
def memTellsSpec : ChangeSpec := { name := "memTells", fn := fun _ => fun
  | [d1, d2, d3] => { results := [.lit (.bool true)], args := [d1, d2, d3] }
  | _ => none }
def memTellsRow : OpenClaim := { program := "ytjheedldiikpnaa", sum := "702dc781482ea2b04378e73c20b06a8d5ca2afbd119341835ff3d69ec06e09ec", func := "underwood/underwoodlaw02.MemTells", spec := "memTells", apart := false }
def MemTellsSaid : Prop := memTellsRow.holds Try.pinned (OpenSpec.ofChange memTellsSpec)

/-- ITS FALSE NEIGHBOUR: 'it returns false'. Refute it at one input. -/
def memTellsWrong : ChangeSpec := { name := "memTells", fn := fun _ => fun
  | [d1, d2, d3] => { results := [.lit (.bool false)], args := [d1, d2, d3] }
  | _ => none }
def MemTellsWrongFalsely : Prop := memTellsRow.holds Try.pinned (OpenSpec.ofChange memTellsWrong)

/-- 'underwoodlaw02.MemAll': WHATEVER THE INPUT: true; the input reads as it did. -/
def memAllSpec : ChangeSpec := { name := "memAll", fn := fun _ => fun
  | [d1, d2] => { results := [.lit (.bool true)], args := [d1, d2] }
  | _ => none }
def memAllRow : OpenClaim := { program := "ytjheedldiikpnaa", sum := "702dc781482ea2b04378e73c20b06a8d5ca2afbd119341835ff3d69ec06e09ec", func := "underwood/underwoodlaw02.MemAll", spec := "memAll", apart := false }
def MemAllSaid : Prop := memAllRow.holds Try.pinned (OpenSpec.ofChange memAllSpec)

/-- ITS FALSE NEIGHBOUR: 'it returns false'. Refute it at one input. -/
def memAllWrong : ChangeSpec := { name := "memAll", fn := fun _ => fun
  | [d1, d2] => { results := [.lit (.bool false)], args := [d1, d2] }
  | _ => none }
def MemAllWrongFalsely : Prop := memAllRow.holds Try.pinned (OpenSpec.ofChange memAllWrong)

/-- 'underwoodlaw02.MemApart': WHATEVER THE INPUT: true; the input reads as it did. -/
def memApartSpec : ChangeSpec := { name := "memApart", fn := fun _ => fun
  | [d1, d2, d3] => { results := [.lit (.bool true)], args := [d1, d2, d3] }
  | _ => none }
def memApartRow : OpenClaim := { program := "ytjheedldiikpnaa", sum := "702dc781482ea2b04378e73c20b06a8d5ca2afbd119341835ff3d69ec06e09ec", func := "underwood/underwoodlaw02.MemApart", spec := "memApart", apart := false }
def MemApartSaid : Prop := memApartRow.holds Try.pinned (OpenSpec.ofChange memApartSpec)

/-- ITS FALSE NEIGHBOUR: 'it returns false'. Refute it at one input. -/
def memApartWrong : ChangeSpec := { name := "memApart", fn := fun _ => fun
  | [d1, d2, d3] => { results := [.lit (.bool false)], args := [d1, d2, d3] }
  | _ => none }
def MemApartWrongFalsely : Prop := memApartRow.holds Try.pinned (OpenSpec.ofChange memApartWrong)

/-- 'underwoodlaw02.MemOwn': WHATEVER THE INPUT: true; the input reads as it did. -/
def memOwnSpec : ChangeSpec := { name := "memOwn", fn := fun _ => fun
  | [d1, d2] => { results := [.lit (.bool true)], args := [d1, d2] }
  | _ => none }
def memOwnRow : OpenClaim := { program := "ytjheedldiikpnaa", sum := "702dc781482ea2b04378e73c20b06a8d5ca2afbd119341835ff3d69ec06e09ec", func := "underwood/underwoodlaw02.MemOwn", spec := "memOwn", apart := false }
def MemOwnSaid : Prop := memOwnRow.holds Try.pinned (OpenSpec.ofChange memOwnSpec)

/-- ITS FALSE NEIGHBOUR: 'it returns false'. Refute it at one input. -/
def memOwnWrong : ChangeSpec := { name := "memOwn", fn := fun _ => fun
  | [d1, d2] => { results := [.lit (.bool false)], args := [d1, d2] }
  | _ => none }
def MemOwnWrongFalsely : Prop := memOwnRow.holds Try.pinned (OpenSpec.ofChange memOwnWrong)

/-- 'underwoodlaw02.MemParts': WHATEVER THE INPUT: true; the input reads as it did. -/
def memPartsSpec : ChangeSpec := { name := "memParts", fn := fun _ => fun
  | [d1, d2, d3] => { results := [.lit (.bool true)], args := [d1, d2, d3] }
  | _ => none }
def memPartsRow : OpenClaim := { program := "ytjheedldiikpnaa", sum := "702dc781482ea2b04378e73c20b06a8d5ca2afbd119341835ff3d69ec06e09ec", func := "underwood/underwoodlaw02.MemParts", spec := "memParts", apart := false }
def MemPartsSaid : Prop := memPartsRow.holds Try.pinned (OpenSpec.ofChange memPartsSpec)

/-- ITS FALSE NEIGHBOUR: 'it returns false'. Refute it at one input. -/
def memPartsWrong : ChangeSpec := { name := "memParts", fn := fun _ => fun
  | [d1, d2, d3] => { results := [.lit (.bool false)], args := [d1, d2, d3] }
  | _ => none }
def MemPartsWrongFalsely : Prop := memPartsRow.holds Try.pinned (OpenSpec.ofChange memPartsWrong)

/-- 'underwoodlaw02.MemSums': WHATEVER THE INPUT: true; the input reads as it did. -/
def memSumsSpec : ChangeSpec := { name := "memSums", fn := fun _ => fun
  | [d1, d2] => { results := [.lit (.bool true)], args := [d1, d2] }
  | _ => none }
def memSumsRow : OpenClaim := { program := "ytjheedldiikpnaa", sum := "702dc781482ea2b04378e73c20b06a8d5ca2afbd119341835ff3d69ec06e09ec", func := "underwood/underwoodlaw02.MemSums", spec := "memSums", apart := false }
def MemSumsSaid : Prop := memSumsRow.holds Try.pinned (OpenSpec.ofChange memSumsSpec)

/-- ITS FALSE NEIGHBOUR: 'it returns false'. Refute it at one input. -/
def memSumsWrong : ChangeSpec := { name := "memSums", fn := fun _ => fun
  | [d1, d2] => { results := [.lit (.bool false)], args := [d1, d2] }
  | _ => none }
def MemSumsWrongFalsely : Prop := memSumsRow.holds Try.pinned (OpenSpec.ofChange memSumsWrong)

/-- 'underwoodlaw02.MemOne': WHATEVER THE INPUT: true; the input reads as it did. -/
def memOneSpec : ChangeSpec := { name := "memOne", fn := fun _ => fun
  | [d1, d2] => { results := [.lit (.bool true)], args := [d1, d2] }
  | _ => none }
def memOneRow : OpenClaim := { program := "ytjheedldiikpnaa", sum := "702dc781482ea2b04378e73c20b06a8d5ca2afbd119341835ff3d69ec06e09ec", func := "underwood/underwoodlaw02.MemOne", spec := "memOne", apart := false }
def MemOneSaid : Prop := memOneRow.holds Try.pinned (OpenSpec.ofChange memOneSpec)

/-- ITS FALSE NEIGHBOUR: 'it returns false'. Refute it at one input. -/
def memOneWrong : ChangeSpec := { name := "memOne", fn := fun _ => fun
  | [d1, d2] => { results := [.lit (.bool false)], args := [d1, d2] }
  | _ => none }
def MemOneWrongFalsely : Prop := memOneRow.holds Try.pinned (OpenSpec.ofChange memOneWrong)

/- THE SECOND FORM. 'bulk': how many values and letters a reading holds, each counted each time it is reached (what is shared counts as often as it is met; a slice's spare places count too). A statement '..UptoSaid' is the law's where the arguments, and the package variables that the reading takes, are together of bulk at most 1048576: NARROWER than '..Said'. Prove '..Said' where nothing that the law and all that it calls make is longer than what came in: it says more and counts as full. Else prove '..UptoSaid'. A law counts once. -/
mutual
def uptoBulk {H : Type} : DataW H → Nat
  | .lit (.string bytes) => bytes.length + 1
  | .lit _ => 1
  | .nil => 1
  | .ptr d => uptoBulk d + 1
  | .slice elems spare => uptoBulkAll elems + uptoBulkAll spare + 1
  | .agg parts => uptoBulkAll parts + 1
  | .iface _ d => uptoBulk d + 1
  | .map entries => uptoBulkEntries entries + 1
  | .held _ => 1
def uptoBulkAll {H : Type} : List (DataW H) → Nat
  | [] => 0
  | d :: r => uptoBulk d + uptoBulkAll r
def uptoBulkEntries {H : Type} : List (Lit × DataW H) → Nat
  | [] => 0
  | x :: r => uptoBulkEntry x + uptoBulkEntries r
def uptoBulkEntry {H : Type} : Lit × DataW H → Nat
  | (.string bytes, d) => bytes.length + uptoBulk d + 1
  | (_, d) => uptoBulk d + 1
 end
def uptoSmall : (H : Type) → List (DataW H) → Bool := fun _ ds => decide (uptoBulkAll ds ≤ 1048576)
def OpenSpec.upto (s : _root_.Go.ChangeSpec) : _root_.Go.OpenSpec := { _root_.Go.OpenSpec.ofChange s with cond := some uptoSmall }

/-- 'underwoodlaw02.MemTells', WHERE WHAT IT READS IS OF BULK AT MOST 1048576: true; the input reads as it did. -/
def memTellsUptoRow : OpenClaim := { program := "ytjheedldiikpnaa", sum := "702dc781482ea2b04378e73c20b06a8d5ca2afbd119341835ff3d69ec06e09ec", func := "underwood/underwoodlaw02.MemTells", spec := "memTells", apart := false, narrowed := true }
def MemTellsUptoSaid : Prop := memTellsUptoRow.holds Try.pinned (OpenSpec.upto memTellsSpec)

/-- 'underwoodlaw02.MemAll', WHERE WHAT IT READS IS OF BULK AT MOST 1048576: true; the input reads as it did. -/
def memAllUptoRow : OpenClaim := { program := "ytjheedldiikpnaa", sum := "702dc781482ea2b04378e73c20b06a8d5ca2afbd119341835ff3d69ec06e09ec", func := "underwood/underwoodlaw02.MemAll", spec := "memAll", apart := false, narrowed := true }
def MemAllUptoSaid : Prop := memAllUptoRow.holds Try.pinned (OpenSpec.upto memAllSpec)

/-- 'underwoodlaw02.MemApart', WHERE WHAT IT READS IS OF BULK AT MOST 1048576: true; the input reads as it did. -/
def memApartUptoRow : OpenClaim := { program := "ytjheedldiikpnaa", sum := "702dc781482ea2b04378e73c20b06a8d5ca2afbd119341835ff3d69ec06e09ec", func := "underwood/underwoodlaw02.MemApart", spec := "memApart", apart := false, narrowed := true }
def MemApartUptoSaid : Prop := memApartUptoRow.holds Try.pinned (OpenSpec.upto memApartSpec)

/-- 'underwoodlaw02.MemOwn', WHERE WHAT IT READS IS OF BULK AT MOST 1048576: true; the input reads as it did. -/
def memOwnUptoRow : OpenClaim := { program := "ytjheedldiikpnaa", sum := "702dc781482ea2b04378e73c20b06a8d5ca2afbd119341835ff3d69ec06e09ec", func := "underwood/underwoodlaw02.MemOwn", spec := "memOwn", apart := false, narrowed := true }
def MemOwnUptoSaid : Prop := memOwnUptoRow.holds Try.pinned (OpenSpec.upto memOwnSpec)

/-- 'underwoodlaw02.MemParts', WHERE WHAT IT READS IS OF BULK AT MOST 1048576: true; the input reads as it did. -/
def memPartsUptoRow : OpenClaim := { program := "ytjheedldiikpnaa", sum := "702dc781482ea2b04378e73c20b06a8d5ca2afbd119341835ff3d69ec06e09ec", func := "underwood/underwoodlaw02.MemParts", spec := "memParts", apart := false, narrowed := true }
def MemPartsUptoSaid : Prop := memPartsUptoRow.holds Try.pinned (OpenSpec.upto memPartsSpec)

/-- 'underwoodlaw02.MemSums', WHERE WHAT IT READS IS OF BULK AT MOST 1048576: true; the input reads as it did. -/
def memSumsUptoRow : OpenClaim := { program := "ytjheedldiikpnaa", sum := "702dc781482ea2b04378e73c20b06a8d5ca2afbd119341835ff3d69ec06e09ec", func := "underwood/underwoodlaw02.MemSums", spec := "memSums", apart := false, narrowed := true }
def MemSumsUptoSaid : Prop := memSumsUptoRow.holds Try.pinned (OpenSpec.upto memSumsSpec)

/-- 'underwoodlaw02.MemOne', WHERE WHAT IT READS IS OF BULK AT MOST 1048576: true; the input reads as it did. -/
def memOneUptoRow : OpenClaim := { program := "ytjheedldiikpnaa", sum := "702dc781482ea2b04378e73c20b06a8d5ca2afbd119341835ff3d69ec06e09ec", func := "underwood/underwoodlaw02.MemOne", spec := "memOne", apart := false, narrowed := true }
def MemOneUptoSaid : Prop := memOneUptoRow.holds Try.pinned (OpenSpec.upto memOneSpec)

end Rows
end Go.Proofs.Ytjheedldiikpnaa
