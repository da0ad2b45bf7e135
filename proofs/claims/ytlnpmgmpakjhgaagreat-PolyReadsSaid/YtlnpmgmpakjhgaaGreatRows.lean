/-
  NARROWER THAN 'FOR EVERY INPUT', by the rows' own cells (each row's printed sentence says how): TemplateOrders: loops · PolyBasics: loops · BoundCounts: loops · PolyReads: loops.
  DERIVED. THE GIVEN ROWS OF THIS SEAT. 4 by the template 'for every input the law returns true; each argument reads behind the call as it read before'; 0 by the template 'total and deterministic' (their statements: YtlnpmgmpakjhgaaGreatTotals.lean).
  GIVEN WITH THE SEED: the statements are not yours to turn. If you find one false, say at which input.
  Laid BY PROGRAM, IN A SANDBOX (cutbox-rows.mjs): the forced cells as the released guide's own fill.sh prints them over the translation fa7f09f0d31eb313… (all of the seat's roots in one cut). By AI agents, Wed Nov 11 2026. No macro, syntax, notation, axiom, sorry.
-/
import Derived.Test.YtlnpmgmpakjhgaaGreatChecked
import GoSem.Claim
import GoSem.ClaimJoined
import GoSem.ClaimMapViews
import Derived.JoinedTies
import Derived.KernelRfl
namespace Go.Proofs.YtlnpmgmpakjhgaaGreat
/- THE CELL 'sum', in the pinned program and in every row, IS THE sha256 OF THE DUMP (.gsa) THAT YtlnpmgmpakjhgaaGreatProg.lean LOADS. Nothing in Lean hashes anything: it is a label: what it is worth is what the hold of that sum in a sandbox is worth. -/
noncomputable def Tryz.pinned : Pinned := { name := "ytlnpmgmpakjhgaagreat", sum := "fa7f09f0d31eb313f8d5f009f6e1f9cd02126149c7c9ac9b19b96dc4100ec19b", checked := Tryz.checked }
namespace Rows
def none {H : Type} : Left H := { results := [], args := [] }

/-- 'amortcostlaw34.TemplateOrders': WHATEVER THE INPUT: true; the input reads as it did. -/
def templateOrdersSpec : ChangeSpec := { name := "templateOrders", fn := fun _ => fun
  | [d] => { results := [.lit (.bool true)], args := [d] }
  | _ => none }
def templateOrdersRow : OpenClaim := { program := "ytlnpmgmpakjhgaagreat", sum := "fa7f09f0d31eb313f8d5f009f6e1f9cd02126149c7c9ac9b19b96dc4100ec19b", func := "amortcost/amortcostlaw34.TemplateOrders", spec := "templateOrders", unfollowed := true, recurses := true, loops := true, plainKeys := false, apart := false }
def TemplateOrdersSaid : Prop := templateOrdersRow.holds Tryz.pinned (OpenSpec.ofChange templateOrdersSpec)

/-- ITS FALSE NEIGHBOUR: 'it returns false'. Refute it at one input. -/
def templateOrdersWrong : ChangeSpec := { name := "templateOrders", fn := fun _ => fun
  | [d] => { results := [.lit (.bool false)], args := [d] }
  | _ => none }
def TemplateOrdersWrongFalsely : Prop := templateOrdersRow.holds Tryz.pinned (OpenSpec.ofChange templateOrdersWrong)

/-- 'amortcostlaw20.PolyBasics': WHATEVER THE INPUT: true; the input reads as it did. -/
def polyBasicsSpec : ChangeSpec := { name := "polyBasics", fn := fun _ => fun
  | [d1, d2, d3, d4, d5, d6] => { results := [.lit (.bool true)], args := [d1, d2, d3, d4, d5, d6] }
  | _ => none }
def polyBasicsRow : OpenClaim := { program := "ytlnpmgmpakjhgaagreat", sum := "fa7f09f0d31eb313f8d5f009f6e1f9cd02126149c7c9ac9b19b96dc4100ec19b", func := "amortcost/amortcostlaw20.PolyBasics", spec := "polyBasics", unfollowed := true, recurses := true, loops := true, plainKeys := false, apart := false }
def PolyBasicsSaid : Prop := polyBasicsRow.holds Tryz.pinned (OpenSpec.ofChange polyBasicsSpec)

/-- ITS FALSE NEIGHBOUR: 'it returns false'. Refute it at one input. -/
def polyBasicsWrong : ChangeSpec := { name := "polyBasics", fn := fun _ => fun
  | [d1, d2, d3, d4, d5, d6] => { results := [.lit (.bool false)], args := [d1, d2, d3, d4, d5, d6] }
  | _ => none }
def PolyBasicsWrongFalsely : Prop := polyBasicsRow.holds Tryz.pinned (OpenSpec.ofChange polyBasicsWrong)

/-- 'amortcostlaw32.BoundCounts': WHATEVER THE INPUT: true; the input reads as it did. -/
def boundCountsSpec : ChangeSpec := { name := "boundCounts", fn := fun _ => fun
  | [d1, d2, d3, d4, d5] => { results := [.lit (.bool true)], args := [d1, d2, d3, d4, d5] }
  | _ => none }
def boundCountsRow : OpenClaim := { program := "ytlnpmgmpakjhgaagreat", sum := "fa7f09f0d31eb313f8d5f009f6e1f9cd02126149c7c9ac9b19b96dc4100ec19b", func := "amortcost/amortcostlaw32.BoundCounts", spec := "boundCounts", unfollowed := true, recurses := true, loops := true, plainKeys := false, apart := false }
def BoundCountsSaid : Prop := boundCountsRow.holds Tryz.pinned (OpenSpec.ofChange boundCountsSpec)

/-- ITS FALSE NEIGHBOUR: 'it returns false'. Refute it at one input. -/
def boundCountsWrong : ChangeSpec := { name := "boundCounts", fn := fun _ => fun
  | [d1, d2, d3, d4, d5] => { results := [.lit (.bool false)], args := [d1, d2, d3, d4, d5] }
  | _ => none }
def BoundCountsWrongFalsely : Prop := boundCountsRow.holds Tryz.pinned (OpenSpec.ofChange boundCountsWrong)

/-- 'amortcostlaw20.PolyReads': WHATEVER THE INPUT: true; the input reads as it did. -/
def polyReadsSpec : ChangeSpec := { name := "polyReads", fn := fun _ => fun
  | [d1, d2, d3] => { results := [.lit (.bool true)], args := [d1, d2, d3] }
  | _ => none }
def polyReadsRow : OpenClaim := { program := "ytlnpmgmpakjhgaagreat", sum := "fa7f09f0d31eb313f8d5f009f6e1f9cd02126149c7c9ac9b19b96dc4100ec19b", func := "amortcost/amortcostlaw20.PolyReads", spec := "polyReads", unfollowed := true, recurses := true, loops := true, plainKeys := false, apart := false }
def PolyReadsSaid : Prop := polyReadsRow.holds Tryz.pinned (OpenSpec.ofChange polyReadsSpec)

/-- ITS FALSE NEIGHBOUR: 'it returns false'. Refute it at one input. -/
def polyReadsWrong : ChangeSpec := { name := "polyReads", fn := fun _ => fun
  | [d1, d2, d3] => { results := [.lit (.bool false)], args := [d1, d2, d3] }
  | _ => none }
def PolyReadsWrongFalsely : Prop := polyReadsRow.holds Tryz.pinned (OpenSpec.ofChange polyReadsWrong)

/- THE SECOND FORM. 'bulk': how many values and letters a reading holds, each counted each time it is reached (what is shared counts as often as it is met; a slice's spare places count too). A statement '..UptoSaid' is the law's where the arguments, and the package variables that the reading takes, are together of bulk at most 1048576: NARROWER than '..Said'. Prove '..Said' where nothing that the law and all that it calls make is longer than what came in: it says more and counts as full. Else prove '..UptoSaid'. A law counts once. -/
mutual
def uptoBulk {H : Type} : DataW H → Nat
  | .lit (.string bytes) => bytes.length + 1
  | .lit _ => 1
  | .nil => 1
  | .ptr d => uptoBulk d + 1
  | .slice elems spare => uptoBulkAll elems + uptoBulkAll spare + 1
  | .agg parts => uptoBulkAll parts + 1
  | .iface _ d => uptoBulk d + 1
  | .map entries => uptoBulkEntries entries + 1
  | .held _ => 1
def uptoBulkAll {H : Type} : List (DataW H) → Nat
  | [] => 0
  | d :: r => uptoBulk d + uptoBulkAll r
def uptoBulkEntries {H : Type} : List (Lit × DataW H) → Nat
  | [] => 0
  | x :: r => uptoBulkEntry x + uptoBulkEntries r
def uptoBulkEntry {H : Type} : Lit × DataW H → Nat
  | (.string bytes, d) => bytes.length + uptoBulk d + 1
  | (_, d) => uptoBulk d + 1
 end
def uptoSmall : (H : Type) → List (DataW H) → Bool := fun _ ds => decide (uptoBulkAll ds ≤ 1048576)
def OpenSpec.upto (s : _root_.Go.ChangeSpec) : _root_.Go.OpenSpec := { _root_.Go.OpenSpec.ofChange s with cond := some uptoSmall }

/-- 'amortcostlaw34.TemplateOrders', WHERE WHAT IT READS IS OF BULK AT MOST 1048576: true; the input reads as it did. -/
def templateOrdersUptoRow : OpenClaim := { program := "ytlnpmgmpakjhgaagreat", sum := "fa7f09f0d31eb313f8d5f009f6e1f9cd02126149c7c9ac9b19b96dc4100ec19b", func := "amortcost/amortcostlaw34.TemplateOrders", spec := "templateOrders", unfollowed := true, recurses := true, loops := true, plainKeys := false, apart := false, narrowed := true }
def TemplateOrdersUptoSaid : Prop := templateOrdersUptoRow.holds Tryz.pinned (OpenSpec.upto templateOrdersSpec)

/-- 'amortcostlaw20.PolyBasics', WHERE WHAT IT READS IS OF BULK AT MOST 1048576: true; the input reads as it did. -/
def polyBasicsUptoRow : OpenClaim := { program := "ytlnpmgmpakjhgaagreat", sum := "fa7f09f0d31eb313f8d5f009f6e1f9cd02126149c7c9ac9b19b96dc4100ec19b", func := "amortcost/amortcostlaw20.PolyBasics", spec := "polyBasics", unfollowed := true, recurses := true, loops := true, plainKeys := false, apart := false, narrowed := true }
def PolyBasicsUptoSaid : Prop := polyBasicsUptoRow.holds Tryz.pinned (OpenSpec.upto polyBasicsSpec)

/-- 'amortcostlaw32.BoundCounts', WHERE WHAT IT READS IS OF BULK AT MOST 1048576: true; the input reads as it did. -/
def boundCountsUptoRow : OpenClaim := { program := "ytlnpmgmpakjhgaagreat", sum := "fa7f09f0d31eb313f8d5f009f6e1f9cd02126149c7c9ac9b19b96dc4100ec19b", func := "amortcost/amortcostlaw32.BoundCounts", spec := "boundCounts", unfollowed := true, recurses := true, loops := true, plainKeys := false, apart := false, narrowed := true }
def BoundCountsUptoSaid : Prop := boundCountsUptoRow.holds Tryz.pinned (OpenSpec.upto boundCountsSpec)

/-- 'amortcostlaw20.PolyReads', WHERE WHAT IT READS IS OF BULK AT MOST 1048576: true; the input reads as it did. -/
def polyReadsUptoRow : OpenClaim := { program := "ytlnpmgmpakjhgaagreat", sum := "fa7f09f0d31eb313f8d5f009f6e1f9cd02126149c7c9ac9b19b96dc4100ec19b", func := "amortcost/amortcostlaw20.PolyReads", spec := "polyReads", unfollowed := true, recurses := true, loops := true, plainKeys := false, apart := false, narrowed := true }
def PolyReadsUptoSaid : Prop := polyReadsUptoRow.holds Tryz.pinned (OpenSpec.upto polyReadsSpec)

end Rows
end Go.Proofs.YtlnpmgmpakjhgaaGreat
