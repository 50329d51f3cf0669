/-
  NARROWER THAN 'FOR EVERY INPUT', by the rows' own cells (each row's printed sentence says how): VirtualWitness: loops · VirtualArgs: loops · VirtualLinear: loops · VirtualExists: loops · VirtualForall: loops.
  DERIVED. THE GIVEN ROWS OF THIS SEAT. 5 by the template 'for every input the law returns true; each argument reads behind the call as it read before'; 0 by the template 'total and deterministic' (their statements: YtkkdpjmefjampaaGreatTotals.lean).
  GIVEN WITH THE SEED: the statements are not yours to turn. If you find one false, say at which input.
  Laid BY PROGRAM, IN A SANDBOX (cutbox-rows.mjs): the forced cells as the released guide's own fill.sh prints them over the translation 11a71ed1f00fdf01… (all of the seat's roots in one cut). By AI agents, Wed Nov 11 2026. No macro, syntax, notation, axiom, sorry.
-/
import Derived.Test.YtkkdpjmefjampaaGreatChecked
import GoSem.Claim
import GoSem.ClaimJoined
import GoSem.ClaimMapViews
import Derived.JoinedTies
import Derived.KernelRfl
namespace Go.Proofs.YtkkdpjmefjampaaGreat
/- THE CELL 'sum', in the pinned program and in every row, IS THE sha256 OF THE DUMP (.gsa) THAT YtkkdpjmefjampaaGreatProg.lean LOADS. Nothing in Lean hashes anything: it is a label: what it is worth is what the hold of that sum in a sandbox is worth. -/
noncomputable def Tryz.pinned : Pinned := { name := "ytkkdpjmefjampaagreat", sum := "11a71ed1f00fdf017b6c02b287c41c04bd1ae550c16f8d2e7db6a36c46a13deb", checked := Tryz.checked }
namespace Rows
def none {H : Type} : Left H := { results := [], args := [] }

/-- 'cylinderlaw53.VirtualWitness': WHATEVER THE INPUT: true; the input reads as it did. -/
def virtualWitnessSpec : ChangeSpec := { name := "virtualWitness", fn := fun _ => fun
  | [d1, d2, d3] => { results := [.lit (.bool true)], args := [d1, d2, d3] }
  | _ => none }
def virtualWitnessRow : OpenClaim := { program := "ytkkdpjmefjampaagreat", sum := "11a71ed1f00fdf017b6c02b287c41c04bd1ae550c16f8d2e7db6a36c46a13deb", func := "cylinder/cylinderlaw53.VirtualWitness", spec := "virtualWitness", unfollowed := true, recurses := true, named := ["math/bits.overflowError", "math/bits.divideError"], loops := true, apart := false }
def VirtualWitnessSaid : Prop := virtualWitnessRow.holds Tryz.pinned (OpenSpec.ofChange virtualWitnessSpec)

/-- ITS FALSE NEIGHBOUR: 'it returns false'. Refute it at one input. -/
def virtualWitnessWrong : ChangeSpec := { name := "virtualWitness", fn := fun _ => fun
  | [d1, d2, d3] => { results := [.lit (.bool false)], args := [d1, d2, d3] }
  | _ => none }
def VirtualWitnessWrongFalsely : Prop := virtualWitnessRow.holds Tryz.pinned (OpenSpec.ofChange virtualWitnessWrong)

/-- 'cylinderlaw53.VirtualArgs': WHATEVER THE INPUT: true; the input reads as it did. -/
def virtualArgsSpec : ChangeSpec := { name := "virtualArgs", fn := fun _ => fun
  | [d1, d2] => { results := [.lit (.bool true)], args := [d1, d2] }
  | _ => none }
def virtualArgsRow : OpenClaim := { program := "ytkkdpjmefjampaagreat", sum := "11a71ed1f00fdf017b6c02b287c41c04bd1ae550c16f8d2e7db6a36c46a13deb", func := "cylinder/cylinderlaw53.VirtualArgs", spec := "virtualArgs", unfollowed := true, recurses := true, named := ["math/bits.overflowError", "math/bits.divideError"], loops := true, apart := false }
def VirtualArgsSaid : Prop := virtualArgsRow.holds Tryz.pinned (OpenSpec.ofChange virtualArgsSpec)

/-- ITS FALSE NEIGHBOUR: 'it returns false'. Refute it at one input. -/
def virtualArgsWrong : ChangeSpec := { name := "virtualArgs", fn := fun _ => fun
  | [d1, d2] => { results := [.lit (.bool false)], args := [d1, d2] }
  | _ => none }
def VirtualArgsWrongFalsely : Prop := virtualArgsRow.holds Tryz.pinned (OpenSpec.ofChange virtualArgsWrong)

/-- 'cylinderlaw53.VirtualLinear': WHATEVER THE INPUT: true; the input reads as it did. -/
def virtualLinearSpec : ChangeSpec := { name := "virtualLinear", fn := fun _ => fun
  | [d] => { results := [.lit (.bool true)], args := [d] }
  | _ => none }
def virtualLinearRow : OpenClaim := { program := "ytkkdpjmefjampaagreat", sum := "11a71ed1f00fdf017b6c02b287c41c04bd1ae550c16f8d2e7db6a36c46a13deb", func := "cylinder/cylinderlaw53.VirtualLinear", spec := "virtualLinear", unfollowed := true, recurses := true, named := ["math/bits.overflowError", "math/bits.divideError"], loops := true, apart := false }
def VirtualLinearSaid : Prop := virtualLinearRow.holds Tryz.pinned (OpenSpec.ofChange virtualLinearSpec)

/-- ITS FALSE NEIGHBOUR: 'it returns false'. Refute it at one input. -/
def virtualLinearWrong : ChangeSpec := { name := "virtualLinear", fn := fun _ => fun
  | [d] => { results := [.lit (.bool false)], args := [d] }
  | _ => none }
def VirtualLinearWrongFalsely : Prop := virtualLinearRow.holds Tryz.pinned (OpenSpec.ofChange virtualLinearWrong)

/-- 'cylinderlaw53.VirtualExists': WHATEVER THE INPUT: true; the input reads as it did. -/
def virtualExistsSpec : ChangeSpec := { name := "virtualExists", fn := fun _ => fun
  | [d1, d2, d3] => { results := [.lit (.bool true)], args := [d1, d2, d3] }
  | _ => none }
def virtualExistsRow : OpenClaim := { program := "ytkkdpjmefjampaagreat", sum := "11a71ed1f00fdf017b6c02b287c41c04bd1ae550c16f8d2e7db6a36c46a13deb", func := "cylinder/cylinderlaw53.VirtualExists", spec := "virtualExists", unfollowed := true, recurses := true, named := ["math/bits.overflowError", "math/bits.divideError"], loops := true, apart := false }
def VirtualExistsSaid : Prop := virtualExistsRow.holds Tryz.pinned (OpenSpec.ofChange virtualExistsSpec)

/-- ITS FALSE NEIGHBOUR: 'it returns false'. Refute it at one input. -/
def virtualExistsWrong : ChangeSpec := { name := "virtualExists", fn := fun _ => fun
  | [d1, d2, d3] => { results := [.lit (.bool false)], args := [d1, d2, d3] }
  | _ => none }
def VirtualExistsWrongFalsely : Prop := virtualExistsRow.holds Tryz.pinned (OpenSpec.ofChange virtualExistsWrong)

/-- 'cylinderlaw53.VirtualForall': WHATEVER THE INPUT: true; the input reads as it did. -/
def virtualForallSpec : ChangeSpec := { name := "virtualForall", fn := fun _ => fun
  | [d1, d2, d3] => { results := [.lit (.bool true)], args := [d1, d2, d3] }
  | _ => none }
def virtualForallRow : OpenClaim := { program := "ytkkdpjmefjampaagreat", sum := "11a71ed1f00fdf017b6c02b287c41c04bd1ae550c16f8d2e7db6a36c46a13deb", func := "cylinder/cylinderlaw53.VirtualForall", spec := "virtualForall", unfollowed := true, recurses := true, named := ["math/bits.overflowError", "math/bits.divideError"], loops := true, apart := false }
def VirtualForallSaid : Prop := virtualForallRow.holds Tryz.pinned (OpenSpec.ofChange virtualForallSpec)

/-- ITS FALSE NEIGHBOUR: 'it returns false'. Refute it at one input. -/
def virtualForallWrong : ChangeSpec := { name := "virtualForall", fn := fun _ => fun
  | [d1, d2, d3] => { results := [.lit (.bool false)], args := [d1, d2, d3] }
  | _ => none }
def VirtualForallWrongFalsely : Prop := virtualForallRow.holds Tryz.pinned (OpenSpec.ofChange virtualForallWrong)

/- THE SECOND FORM. 'bulk': how many values and letters a reading holds, each counted each time it is reached (what is shared counts as often as it is met; a slice's spare places count too). A statement '..UptoSaid' is the law's where the arguments, and the package variables that the reading takes, are together of bulk at most 1048576: NARROWER than '..Said'. Prove '..Said' where nothing that the law and all that it calls make is longer than what came in: it says more and counts as full. Else prove '..UptoSaid'. A law counts once. -/
mutual
def uptoBulk {H : Type} : DataW H → Nat
  | .lit (.string bytes) => bytes.length + 1
  | .lit _ => 1
  | .nil => 1
  | .ptr d => uptoBulk d + 1
  | .slice elems spare => uptoBulkAll elems + uptoBulkAll spare + 1
  | .agg parts => uptoBulkAll parts + 1
  | .iface _ d => uptoBulk d + 1
  | .map entries => uptoBulkEntries entries + 1
  | .held _ => 1
def uptoBulkAll {H : Type} : List (DataW H) → Nat
  | [] => 0
  | d :: r => uptoBulk d + uptoBulkAll r
def uptoBulkEntries {H : Type} : List (Lit × DataW H) → Nat
  | [] => 0
  | x :: r => uptoBulkEntry x + uptoBulkEntries r
def uptoBulkEntry {H : Type} : Lit × DataW H → Nat
  | (.string bytes, d) => bytes.length + uptoBulk d + 1
  | (_, d) => uptoBulk d + 1
 end
def uptoSmall : (H : Type) → List (DataW H) → Bool := fun _ ds => decide (uptoBulkAll ds ≤ 1048576)
def OpenSpec.upto (s : _root_.Go.ChangeSpec) : _root_.Go.OpenSpec := { _root_.Go.OpenSpec.ofChange s with cond := some uptoSmall }

/-- 'cylinderlaw53.VirtualWitness', WHERE WHAT IT READS IS OF BULK AT MOST 1048576: true; the input reads as it did. -/
def virtualWitnessUptoRow : OpenClaim := { program := "ytkkdpjmefjampaagreat", sum := "11a71ed1f00fdf017b6c02b287c41c04bd1ae550c16f8d2e7db6a36c46a13deb", func := "cylinder/cylinderlaw53.VirtualWitness", spec := "virtualWitness", unfollowed := true, recurses := true, named := ["math/bits.overflowError", "math/bits.divideError"], loops := true, apart := false, narrowed := true }
def VirtualWitnessUptoSaid : Prop := virtualWitnessUptoRow.holds Tryz.pinned (OpenSpec.upto virtualWitnessSpec)

/-- 'cylinderlaw53.VirtualArgs', WHERE WHAT IT READS IS OF BULK AT MOST 1048576: true; the input reads as it did. -/
def virtualArgsUptoRow : OpenClaim := { program := "ytkkdpjmefjampaagreat", sum := "11a71ed1f00fdf017b6c02b287c41c04bd1ae550c16f8d2e7db6a36c46a13deb", func := "cylinder/cylinderlaw53.VirtualArgs", spec := "virtualArgs", unfollowed := true, recurses := true, named := ["math/bits.overflowError", "math/bits.divideError"], loops := true, apart := false, narrowed := true }
def VirtualArgsUptoSaid : Prop := virtualArgsUptoRow.holds Tryz.pinned (OpenSpec.upto virtualArgsSpec)

/-- 'cylinderlaw53.VirtualLinear', WHERE WHAT IT READS IS OF BULK AT MOST 1048576: true; the input reads as it did. -/
def virtualLinearUptoRow : OpenClaim := { program := "ytkkdpjmefjampaagreat", sum := "11a71ed1f00fdf017b6c02b287c41c04bd1ae550c16f8d2e7db6a36c46a13deb", func := "cylinder/cylinderlaw53.VirtualLinear", spec := "virtualLinear", unfollowed := true, recurses := true, named := ["math/bits.overflowError", "math/bits.divideError"], loops := true, apart := false, narrowed := true }
def VirtualLinearUptoSaid : Prop := virtualLinearUptoRow.holds Tryz.pinned (OpenSpec.upto virtualLinearSpec)

/-- 'cylinderlaw53.VirtualExists', WHERE WHAT IT READS IS OF BULK AT MOST 1048576: true; the input reads as it did. -/
def virtualExistsUptoRow : OpenClaim := { program := "ytkkdpjmefjampaagreat", sum := "11a71ed1f00fdf017b6c02b287c41c04bd1ae550c16f8d2e7db6a36c46a13deb", func := "cylinder/cylinderlaw53.VirtualExists", spec := "virtualExists", unfollowed := true, recurses := true, named := ["math/bits.overflowError", "math/bits.divideError"], loops := true, apart := false, narrowed := true }
def VirtualExistsUptoSaid : Prop := virtualExistsUptoRow.holds Tryz.pinned (OpenSpec.upto virtualExistsSpec)

/-- 'cylinderlaw53.VirtualForall', WHERE WHAT IT READS IS OF BULK AT MOST 1048576: true; the input reads as it did. -/
def virtualForallUptoRow : OpenClaim := { program := "ytkkdpjmefjampaagreat", sum := "11a71ed1f00fdf017b6c02b287c41c04bd1ae550c16f8d2e7db6a36c46a13deb", func := "cylinder/cylinderlaw53.VirtualForall", spec := "virtualForall", unfollowed := true, recurses := true, named := ["math/bits.overflowError", "math/bits.divideError"], loops := true, apart := false, narrowed := true }
def VirtualForallUptoSaid : Prop := virtualForallUptoRow.holds Tryz.pinned (OpenSpec.upto virtualForallSpec)

end Rows
end Go.Proofs.YtkkdpjmefjampaaGreat
