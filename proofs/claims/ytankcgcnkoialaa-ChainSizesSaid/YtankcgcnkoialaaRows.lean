/-
  No cell of these rows narrows 'for every input' (looked for: loops, veiled, ifaces, maps, wideKeys, modest, calm, conditions, laid).
  DERIVED. THE GIVEN ROWS OF THIS SEAT. 4 by the template 'for every input the law returns true; each argument reads behind the call as it read before'; 0 by the template 'total and deterministic' (their statements: YtankcgcnkoialaaTotals.lean).
  GIVEN WITH THE SEED: the statements are not yours to turn. If you find one false, say at which input.
  Laid BY PROGRAM, IN A SANDBOX (cutbox-rows.mjs): the forced cells as the released guide's own fill.sh prints them over the translation 4f55ace9130eb9bc… (all of the seat's roots in one cut). By AI agents, Wed Nov 11 2026. No macro, syntax, notation, axiom, sorry.
-/
import Derived.Test.YtankcgcnkoialaaChecked
import GoSem.Claim
import GoSem.ClaimJoined
import GoSem.ClaimMapViews
import Derived.JoinedTies
import Derived.KernelRfl
namespace Go.Proofs.Ytankcgcnkoialaa
/- THE CELL 'sum', in the pinned program and in every row, IS THE sha256 OF THE DUMP (.gsa) THAT YtankcgcnkoialaaProg.lean LOADS. Nothing in Lean hashes anything: it is a label: what it is worth is what the hold of that sum in a sandbox is worth. -/
noncomputable def Try.pinned : Pinned := { name := "ytankcgcnkoialaa", sum := "4f55ace9130eb9bc3d2f345be5fde184b116eb8e02340ab502e3cb9580266358", checked := Try.checked }
namespace Rows
def none {H : Type} : Left H := { results := [], args := [] }

/-- 'cashbooklaw16.DepsAreas': WHATEVER THE INPUT: true; the input reads as it did. -/
def depsAreasSpec : ChangeSpec := { name := "depsAreas", fn := fun _ => fun
  | [d1, d2, d3, d4, d5] => { results := [.lit (.bool true)], args := [d1, d2, d3, d4, d5] }
  | _ => none }
def depsAreasRow : OpenClaim := { program := "ytankcgcnkoialaa", sum := "4f55ace9130eb9bc3d2f345be5fde184b116eb8e02340ab502e3cb9580266358", func := "cashbook/cashbooklaw16.DepsAreas", spec := "depsAreas", unfollowed := true, recurses := true, plainKeys := false, apart := false }
def DepsAreasSaid : Prop := depsAreasRow.holds Try.pinned (OpenSpec.ofChange depsAreasSpec)

/-- ITS FALSE NEIGHBOUR: 'it returns false'. Refute it at one input. -/
def depsAreasWrong : ChangeSpec := { name := "depsAreas", fn := fun _ => fun
  | [d1, d2, d3, d4, d5] => { results := [.lit (.bool false)], args := [d1, d2, d3, d4, d5] }
  | _ => none }
def DepsAreasWrongFalsely : Prop := depsAreasRow.holds Try.pinned (OpenSpec.ofChange depsAreasWrong)

/-- 'cashbooklaw16.DepsOrder': WHATEVER THE INPUT: true; the input reads as it did. -/
def depsOrderSpec : ChangeSpec := { name := "depsOrder", fn := fun _ => fun
  | [d1, d2, d3] => { results := [.lit (.bool true)], args := [d1, d2, d3] }
  | _ => none }
def depsOrderRow : OpenClaim := { program := "ytankcgcnkoialaa", sum := "4f55ace9130eb9bc3d2f345be5fde184b116eb8e02340ab502e3cb9580266358", func := "cashbook/cashbooklaw16.DepsOrder", spec := "depsOrder", unfollowed := true, recurses := true, plainKeys := false, apart := false }
def DepsOrderSaid : Prop := depsOrderRow.holds Try.pinned (OpenSpec.ofChange depsOrderSpec)

/-- ITS FALSE NEIGHBOUR: 'it returns false'. Refute it at one input. -/
def depsOrderWrong : ChangeSpec := { name := "depsOrder", fn := fun _ => fun
  | [d1, d2, d3] => { results := [.lit (.bool false)], args := [d1, d2, d3] }
  | _ => none }
def DepsOrderWrongFalsely : Prop := depsOrderRow.holds Try.pinned (OpenSpec.ofChange depsOrderWrong)

/-- 'cashbooklaw17.ChainBytes': WHATEVER THE INPUT: true; the input reads as it did. -/
def chainBytesSpec : ChangeSpec := { name := "chainBytes", fn := fun _ => fun
  | [d1, d2] => { results := [.lit (.bool true)], args := [d1, d2] }
  | _ => none }
def chainBytesRow : OpenClaim := { program := "ytankcgcnkoialaa", sum := "4f55ace9130eb9bc3d2f345be5fde184b116eb8e02340ab502e3cb9580266358", func := "cashbook/cashbooklaw17.ChainBytes", spec := "chainBytes", unfollowed := true, recurses := true, plainKeys := false, apart := false }
def ChainBytesSaid : Prop := chainBytesRow.holds Try.pinned (OpenSpec.ofChange chainBytesSpec)

/-- ITS FALSE NEIGHBOUR: 'it returns false'. Refute it at one input. -/
def chainBytesWrong : ChangeSpec := { name := "chainBytes", fn := fun _ => fun
  | [d1, d2] => { results := [.lit (.bool false)], args := [d1, d2] }
  | _ => none }
def ChainBytesWrongFalsely : Prop := chainBytesRow.holds Try.pinned (OpenSpec.ofChange chainBytesWrong)

/-- 'cashbooklaw17.ChainSizes': WHATEVER THE INPUT: true; the input reads as it did. -/
def chainSizesSpec : ChangeSpec := { name := "chainSizes", fn := fun _ => fun
  | [d] => { results := [.lit (.bool true)], args := [d] }
  | _ => none }
def chainSizesRow : OpenClaim := { program := "ytankcgcnkoialaa", sum := "4f55ace9130eb9bc3d2f345be5fde184b116eb8e02340ab502e3cb9580266358", func := "cashbook/cashbooklaw17.ChainSizes", spec := "chainSizes", unfollowed := true, recurses := true, plainKeys := false, apart := false }
def ChainSizesSaid : Prop := chainSizesRow.holds Try.pinned (OpenSpec.ofChange chainSizesSpec)

/-- ITS FALSE NEIGHBOUR: 'it returns false'. Refute it at one input. -/
def chainSizesWrong : ChangeSpec := { name := "chainSizes", fn := fun _ => fun
  | [d] => { results := [.lit (.bool false)], args := [d] }
  | _ => none }
def ChainSizesWrongFalsely : Prop := chainSizesRow.holds Try.pinned (OpenSpec.ofChange chainSizesWrong)

/- THE SECOND FORM. 'bulk': how many values and letters a reading holds, each counted each time it is reached (what is shared counts as often as it is met; a slice's spare places count too). A statement '..UptoSaid' is the law's where the arguments, and the package variables that the reading takes, are together of bulk at most 1048576: NARROWER than '..Said'. Prove '..Said' where nothing that the law and all that it calls make is longer than what came in: it says more and counts as full. Else prove '..UptoSaid'. A law counts once. -/
mutual
def uptoBulk {H : Type} : DataW H → Nat
  | .lit (.string bytes) => bytes.length + 1
  | .lit _ => 1
  | .nil => 1
  | .ptr d => uptoBulk d + 1
  | .slice elems spare => uptoBulkAll elems + uptoBulkAll spare + 1
  | .agg parts => uptoBulkAll parts + 1
  | .iface _ d => uptoBulk d + 1
  | .map entries => uptoBulkEntries entries + 1
  | .held _ => 1
def uptoBulkAll {H : Type} : List (DataW H) → Nat
  | [] => 0
  | d :: r => uptoBulk d + uptoBulkAll r
def uptoBulkEntries {H : Type} : List (Lit × DataW H) → Nat
  | [] => 0
  | x :: r => uptoBulkEntry x + uptoBulkEntries r
def uptoBulkEntry {H : Type} : Lit × DataW H → Nat
  | (.string bytes, d) => bytes.length + uptoBulk d + 1
  | (_, d) => uptoBulk d + 1
 end
def uptoSmall : (H : Type) → List (DataW H) → Bool := fun _ ds => decide (uptoBulkAll ds ≤ 1048576)
def OpenSpec.upto (s : _root_.Go.ChangeSpec) : _root_.Go.OpenSpec := { _root_.Go.OpenSpec.ofChange s with cond := some uptoSmall }

/-- 'cashbooklaw16.DepsAreas', WHERE WHAT IT READS IS OF BULK AT MOST 1048576: true; the input reads as it did. -/
def depsAreasUptoRow : OpenClaim := { program := "ytankcgcnkoialaa", sum := "4f55ace9130eb9bc3d2f345be5fde184b116eb8e02340ab502e3cb9580266358", func := "cashbook/cashbooklaw16.DepsAreas", spec := "depsAreas", unfollowed := true, recurses := true, plainKeys := false, apart := false, narrowed := true }
def DepsAreasUptoSaid : Prop := depsAreasUptoRow.holds Try.pinned (OpenSpec.upto depsAreasSpec)

/-- 'cashbooklaw16.DepsOrder', WHERE WHAT IT READS IS OF BULK AT MOST 1048576: true; the input reads as it did. -/
def depsOrderUptoRow : OpenClaim := { program := "ytankcgcnkoialaa", sum := "4f55ace9130eb9bc3d2f345be5fde184b116eb8e02340ab502e3cb9580266358", func := "cashbook/cashbooklaw16.DepsOrder", spec := "depsOrder", unfollowed := true, recurses := true, plainKeys := false, apart := false, narrowed := true }
def DepsOrderUptoSaid : Prop := depsOrderUptoRow.holds Try.pinned (OpenSpec.upto depsOrderSpec)

/-- 'cashbooklaw17.ChainBytes', WHERE WHAT IT READS IS OF BULK AT MOST 1048576: true; the input reads as it did. -/
def chainBytesUptoRow : OpenClaim := { program := "ytankcgcnkoialaa", sum := "4f55ace9130eb9bc3d2f345be5fde184b116eb8e02340ab502e3cb9580266358", func := "cashbook/cashbooklaw17.ChainBytes", spec := "chainBytes", unfollowed := true, recurses := true, plainKeys := false, apart := false, narrowed := true }
def ChainBytesUptoSaid : Prop := chainBytesUptoRow.holds Try.pinned (OpenSpec.upto chainBytesSpec)

/-- 'cashbooklaw17.ChainSizes', WHERE WHAT IT READS IS OF BULK AT MOST 1048576: true; the input reads as it did. -/
def chainSizesUptoRow : OpenClaim := { program := "ytankcgcnkoialaa", sum := "4f55ace9130eb9bc3d2f345be5fde184b116eb8e02340ab502e3cb9580266358", func := "cashbook/cashbooklaw17.ChainSizes", spec := "chainSizes", unfollowed := true, recurses := true, plainKeys := false, apart := false, narrowed := true }
def ChainSizesUptoSaid : Prop := chainSizesUptoRow.holds Try.pinned (OpenSpec.upto chainSizesSpec)

end Rows
end Go.Proofs.Ytankcgcnkoialaa
