/-
  No cell of these rows narrows 'for every input' (looked for: loops, veiled, ifaces, maps, wideKeys, modest, calm, conditions, laid).
  DERIVED. THE GIVEN ROWS OF THIS SEAT. 6 by the template 'for every input the law returns true; each argument reads behind the call as it read before'; 0 by the template 'total and deterministic' (their statements: YtbepggeoeflhpaaTotals.lean).
  GIVEN WITH THE SEED: the statements are not yours to turn. If you find one false, say at which input.
  Laid BY PROGRAM, IN A SANDBOX (cutbox-rows.mjs): the forced cells as the released guide's own fill.sh prints them over the translation 600709dae85cc57e… (all of the seat's roots in one cut). By AI agents, Wed Nov 11 2026. No macro, syntax, notation, axiom, sorry.
-/
import Derived.Test.YtbepggeoeflhpaaChecked
import GoSem.Claim
import GoSem.ClaimJoined
import GoSem.ClaimMapViews
import Derived.JoinedTies
import Derived.KernelRfl
namespace Go.Proofs.Ytbepggeoeflhpaa
/- THE CELL 'sum', in the pinned program and in every row, IS THE sha256 OF THE DUMP (.gsa) THAT YtbepggeoeflhpaaProg.lean LOADS. Nothing in Lean hashes anything: it is a label: what it is worth is what the hold of that sum in a sandbox is worth. -/
noncomputable def Try.pinned : Pinned := { name := "ytbepggeoeflhpaa", sum := "600709dae85cc57e19e5644ad660abf9cb70c5b570c298e6e7c449f56ac07a12", checked := Try.checked }
namespace Rows
def none {H : Type} : Left H := { results := [], args := [] }

/-- 'psalterylaw20.JitterBegins': WHATEVER THE INPUT: true; the input reads as it did. -/
def jitterBeginsSpec : ChangeSpec := { name := "jitterBegins", fn := fun _ => fun
  | [d1, d2, d3] => { results := [.lit (.bool true)], args := [d1, d2, d3] }
  | _ => none }
def jitterBeginsRow : OpenClaim := { program := "ytbepggeoeflhpaa", sum := "600709dae85cc57e19e5644ad660abf9cb70c5b570c298e6e7c449f56ac07a12", func := "psaltery/psalterylaw20.JitterBegins", spec := "jitterBegins", unfollowed := true, recurses := true, apart := false }
def JitterBeginsSaid : Prop := jitterBeginsRow.holds Try.pinned (OpenSpec.ofChange jitterBeginsSpec)

/-- ITS FALSE NEIGHBOUR: 'it returns false'. Refute it at one input. -/
def jitterBeginsWrong : ChangeSpec := { name := "jitterBegins", fn := fun _ => fun
  | [d1, d2, d3] => { results := [.lit (.bool false)], args := [d1, d2, d3] }
  | _ => none }
def JitterBeginsWrongFalsely : Prop := jitterBeginsRow.holds Try.pinned (OpenSpec.ofChange jitterBeginsWrong)

/-- 'psalterylaw20.JitterTimely': WHATEVER THE INPUT: true; the input reads as it did. -/
def jitterTimelySpec : ChangeSpec := { name := "jitterTimely", fn := fun _ => fun
  | [d1, d2] => { results := [.lit (.bool true)], args := [d1, d2] }
  | _ => none }
def jitterTimelyRow : OpenClaim := { program := "ytbepggeoeflhpaa", sum := "600709dae85cc57e19e5644ad660abf9cb70c5b570c298e6e7c449f56ac07a12", func := "psaltery/psalterylaw20.JitterTimely", spec := "jitterTimely", unfollowed := true, recurses := true, apart := false }
def JitterTimelySaid : Prop := jitterTimelyRow.holds Try.pinned (OpenSpec.ofChange jitterTimelySpec)

/-- ITS FALSE NEIGHBOUR: 'it returns false'. Refute it at one input. -/
def jitterTimelyWrong : ChangeSpec := { name := "jitterTimely", fn := fun _ => fun
  | [d1, d2] => { results := [.lit (.bool false)], args := [d1, d2] }
  | _ => none }
def JitterTimelyWrongFalsely : Prop := jitterTimelyRow.holds Try.pinned (OpenSpec.ofChange jitterTimelyWrong)

/-- 'psalterylaw20.JitterPlays': WHATEVER THE INPUT: true; the input reads as it did. -/
def jitterPlaysSpec : ChangeSpec := { name := "jitterPlays", fn := fun _ => fun
  | [d1, d2] => { results := [.lit (.bool true)], args := [d1, d2] }
  | _ => none }
def jitterPlaysRow : OpenClaim := { program := "ytbepggeoeflhpaa", sum := "600709dae85cc57e19e5644ad660abf9cb70c5b570c298e6e7c449f56ac07a12", func := "psaltery/psalterylaw20.JitterPlays", spec := "jitterPlays", unfollowed := true, recurses := true, apart := false }
def JitterPlaysSaid : Prop := jitterPlaysRow.holds Try.pinned (OpenSpec.ofChange jitterPlaysSpec)

/-- ITS FALSE NEIGHBOUR: 'it returns false'. Refute it at one input. -/
def jitterPlaysWrong : ChangeSpec := { name := "jitterPlays", fn := fun _ => fun
  | [d1, d2] => { results := [.lit (.bool false)], args := [d1, d2] }
  | _ => none }
def JitterPlaysWrongFalsely : Prop := jitterPlaysRow.holds Try.pinned (OpenSpec.ofChange jitterPlaysWrong)

/-- 'psalterylaw20.JitterOrders': WHATEVER THE INPUT: true; the input reads as it did. -/
def jitterOrdersSpec : ChangeSpec := { name := "jitterOrders", fn := fun _ => fun
  | [d1, d2, d3] => { results := [.lit (.bool true)], args := [d1, d2, d3] }
  | _ => none }
def jitterOrdersRow : OpenClaim := { program := "ytbepggeoeflhpaa", sum := "600709dae85cc57e19e5644ad660abf9cb70c5b570c298e6e7c449f56ac07a12", func := "psaltery/psalterylaw20.JitterOrders", spec := "jitterOrders", unfollowed := true, recurses := true, apart := false }
def JitterOrdersSaid : Prop := jitterOrdersRow.holds Try.pinned (OpenSpec.ofChange jitterOrdersSpec)

/-- ITS FALSE NEIGHBOUR: 'it returns false'. Refute it at one input. -/
def jitterOrdersWrong : ChangeSpec := { name := "jitterOrders", fn := fun _ => fun
  | [d1, d2, d3] => { results := [.lit (.bool false)], args := [d1, d2, d3] }
  | _ => none }
def JitterOrdersWrongFalsely : Prop := jitterOrdersRow.holds Try.pinned (OpenSpec.ofChange jitterOrdersWrong)

/-- 'psalterylaw20.JitterTells': WHATEVER THE INPUT: true; the input reads as it did. -/
def jitterTellsSpec : ChangeSpec := { name := "jitterTells", fn := fun _ => fun
  | [d1, d2, d3] => { results := [.lit (.bool true)], args := [d1, d2, d3] }
  | _ => none }
def jitterTellsRow : OpenClaim := { program := "ytbepggeoeflhpaa", sum := "600709dae85cc57e19e5644ad660abf9cb70c5b570c298e6e7c449f56ac07a12", func := "psaltery/psalterylaw20.JitterTells", spec := "jitterTells", unfollowed := true, recurses := true, apart := false }
def JitterTellsSaid : Prop := jitterTellsRow.holds Try.pinned (OpenSpec.ofChange jitterTellsSpec)

/-- ITS FALSE NEIGHBOUR: 'it returns false'. Refute it at one input. -/
def jitterTellsWrong : ChangeSpec := { name := "jitterTells", fn := fun _ => fun
  | [d1, d2, d3] => { results := [.lit (.bool false)], args := [d1, d2, d3] }
  | _ => none }
def JitterTellsWrongFalsely : Prop := jitterTellsRow.holds Try.pinned (OpenSpec.ofChange jitterTellsWrong)

/-- 'psalterylaw20.JitterKeeps': WHATEVER THE INPUT: true; the input reads as it did. -/
def jitterKeepsSpec : ChangeSpec := { name := "jitterKeeps", fn := fun _ => fun
  | [d1, d2, d3] => { results := [.lit (.bool true)], args := [d1, d2, d3] }
  | _ => none }
def jitterKeepsRow : OpenClaim := { program := "ytbepggeoeflhpaa", sum := "600709dae85cc57e19e5644ad660abf9cb70c5b570c298e6e7c449f56ac07a12", func := "psaltery/psalterylaw20.JitterKeeps", spec := "jitterKeeps", unfollowed := true, recurses := true, apart := false }
def JitterKeepsSaid : Prop := jitterKeepsRow.holds Try.pinned (OpenSpec.ofChange jitterKeepsSpec)

/-- ITS FALSE NEIGHBOUR: 'it returns false'. Refute it at one input. -/
def jitterKeepsWrong : ChangeSpec := { name := "jitterKeeps", fn := fun _ => fun
  | [d1, d2, d3] => { results := [.lit (.bool false)], args := [d1, d2, d3] }
  | _ => none }
def JitterKeepsWrongFalsely : Prop := jitterKeepsRow.holds Try.pinned (OpenSpec.ofChange jitterKeepsWrong)

/- THE SECOND FORM. 'bulk': how many values and letters a reading holds, each counted each time it is reached (what is shared counts as often as it is met; a slice's spare places count too). A statement '..UptoSaid' is the law's where the arguments, and the package variables that the reading takes, are together of bulk at most 1048576: NARROWER than '..Said'. Prove '..Said' where nothing that the law and all that it calls make is longer than what came in: it says more and counts as full. Else prove '..UptoSaid'. A law counts once. -/
mutual
def uptoBulk {H : Type} : DataW H → Nat
  | .lit (.string bytes) => bytes.length + 1
  | .lit _ => 1
  | .nil => 1
  | .ptr d => uptoBulk d + 1
  | .slice elems spare => uptoBulkAll elems + uptoBulkAll spare + 1
  | .agg parts => uptoBulkAll parts + 1
  | .iface _ d => uptoBulk d + 1
  | .map entries => uptoBulkEntries entries + 1
  | .held _ => 1
def uptoBulkAll {H : Type} : List (DataW H) → Nat
  | [] => 0
  | d :: r => uptoBulk d + uptoBulkAll r
def uptoBulkEntries {H : Type} : List (Lit × DataW H) → Nat
  | [] => 0
  | x :: r => uptoBulkEntry x + uptoBulkEntries r
def uptoBulkEntry {H : Type} : Lit × DataW H → Nat
  | (.string bytes, d) => bytes.length + uptoBulk d + 1
  | (_, d) => uptoBulk d + 1
 end
def uptoSmall : (H : Type) → List (DataW H) → Bool := fun _ ds => decide (uptoBulkAll ds ≤ 1048576)
def OpenSpec.upto (s : _root_.Go.ChangeSpec) : _root_.Go.OpenSpec := { _root_.Go.OpenSpec.ofChange s with cond := some uptoSmall }

/-- 'psalterylaw20.JitterBegins', WHERE WHAT IT READS IS OF BULK AT MOST 1048576: true; the input reads as it did. -/
def jitterBeginsUptoRow : OpenClaim := { program := "ytbepggeoeflhpaa", sum := "600709dae85cc57e19e5644ad660abf9cb70c5b570c298e6e7c449f56ac07a12", func := "psaltery/psalterylaw20.JitterBegins", spec := "jitterBegins", unfollowed := true, recurses := true, apart := false, narrowed := true }
def JitterBeginsUptoSaid : Prop := jitterBeginsUptoRow.holds Try.pinned (OpenSpec.upto jitterBeginsSpec)

/-- 'psalterylaw20.JitterTimely', WHERE WHAT IT READS IS OF BULK AT MOST 1048576: true; the input reads as it did. -/
def jitterTimelyUptoRow : OpenClaim := { program := "ytbepggeoeflhpaa", sum := "600709dae85cc57e19e5644ad660abf9cb70c5b570c298e6e7c449f56ac07a12", func := "psaltery/psalterylaw20.JitterTimely", spec := "jitterTimely", unfollowed := true, recurses := true, apart := false, narrowed := true }
def JitterTimelyUptoSaid : Prop := jitterTimelyUptoRow.holds Try.pinned (OpenSpec.upto jitterTimelySpec)

/-- 'psalterylaw20.JitterPlays', WHERE WHAT IT READS IS OF BULK AT MOST 1048576: true; the input reads as it did. -/
def jitterPlaysUptoRow : OpenClaim := { program := "ytbepggeoeflhpaa", sum := "600709dae85cc57e19e5644ad660abf9cb70c5b570c298e6e7c449f56ac07a12", func := "psaltery/psalterylaw20.JitterPlays", spec := "jitterPlays", unfollowed := true, recurses := true, apart := false, narrowed := true }
def JitterPlaysUptoSaid : Prop := jitterPlaysUptoRow.holds Try.pinned (OpenSpec.upto jitterPlaysSpec)

/-- 'psalterylaw20.JitterOrders', WHERE WHAT IT READS IS OF BULK AT MOST 1048576: true; the input reads as it did. -/
def jitterOrdersUptoRow : OpenClaim := { program := "ytbepggeoeflhpaa", sum := "600709dae85cc57e19e5644ad660abf9cb70c5b570c298e6e7c449f56ac07a12", func := "psaltery/psalterylaw20.JitterOrders", spec := "jitterOrders", unfollowed := true, recurses := true, apart := false, narrowed := true }
def JitterOrdersUptoSaid : Prop := jitterOrdersUptoRow.holds Try.pinned (OpenSpec.upto jitterOrdersSpec)

/-- 'psalterylaw20.JitterTells', WHERE WHAT IT READS IS OF BULK AT MOST 1048576: true; the input reads as it did. -/
def jitterTellsUptoRow : OpenClaim := { program := "ytbepggeoeflhpaa", sum := "600709dae85cc57e19e5644ad660abf9cb70c5b570c298e6e7c449f56ac07a12", func := "psaltery/psalterylaw20.JitterTells", spec := "jitterTells", unfollowed := true, recurses := true, apart := false, narrowed := true }
def JitterTellsUptoSaid : Prop := jitterTellsUptoRow.holds Try.pinned (OpenSpec.upto jitterTellsSpec)

/-- 'psalterylaw20.JitterKeeps', WHERE WHAT IT READS IS OF BULK AT MOST 1048576: true; the input reads as it did. -/
def jitterKeepsUptoRow : OpenClaim := { program := "ytbepggeoeflhpaa", sum := "600709dae85cc57e19e5644ad660abf9cb70c5b570c298e6e7c449f56ac07a12", func := "psaltery/psalterylaw20.JitterKeeps", spec := "jitterKeeps", unfollowed := true, recurses := true, apart := false, narrowed := true }
def JitterKeepsUptoSaid : Prop := jitterKeepsUptoRow.holds Try.pinned (OpenSpec.upto jitterKeepsSpec)

end Rows
end Go.Proofs.Ytbepggeoeflhpaa
