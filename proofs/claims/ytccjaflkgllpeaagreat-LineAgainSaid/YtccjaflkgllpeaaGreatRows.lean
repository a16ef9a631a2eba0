/-
  No cell of these rows narrows 'for every input' (looked for: loops, veiled, ifaces, maps, wideKeys, modest, calm, conditions, laid).
  DERIVED. THE GIVEN ROWS OF THIS SEAT. 17 by the template 'for every input the law returns true; each argument reads behind the call as it read before'; 0 by the template 'total and deterministic' (their statements: YtccjaflkgllpeaaGreatTotals.lean).
  GIVEN WITH THE SEED: the statements are not yours to turn. If you find one false, say at which input.
  Laid BY PROGRAM, IN A SANDBOX (cutbox-rows.mjs): the forced cells as the released guide's own fill.sh prints them over the translation caa23f59b12096ed… (all of the seat's roots in one cut). By AI agents, Wed Nov 11 2026. No macro, syntax, notation, axiom, sorry.
-/
import Derived.Test.YtccjaflkgllpeaaGreatChecked
import GoSem.Claim
import GoSem.ClaimJoined
import GoSem.ClaimMapViews
import Derived.JoinedTies
import Derived.KernelRfl
namespace Go.Proofs.YtccjaflkgllpeaaGreat
/- THE CELL 'sum', in the pinned program and in every row, IS THE sha256 OF THE DUMP (.gsa) THAT YtccjaflkgllpeaaGreatProg.lean LOADS. Nothing in Lean hashes anything: it is a label: what it is worth is what the hold of that sum in a sandbox is worth. -/
noncomputable def Tryz.pinned : Pinned := { name := "ytccjaflkgllpeaagreat", sum := "caa23f59b12096ed21bc92404369b9d9097471dc91f1b9a57d92f1c486af9a9a", checked := Tryz.checked }
namespace Rows
def none {H : Type} : Left H := { results := [], args := [] }

/-- 'psalterytop.TopShapes': WHATEVER THE INPUT: true; the input reads as it did. -/
def topShapesSpec : ChangeSpec := { name := "topShapes", fn := fun _ => fun
  | [d1, d2] => { results := [.lit (.bool true)], args := [d1, d2] }
  | _ => none }
def topShapesRow : OpenClaim := { program := "ytccjaflkgllpeaagreat", sum := "caa23f59b12096ed21bc92404369b9d9097471dc91f1b9a57d92f1c486af9a9a", func := "psaltery/psalterytop.TopShapes", spec := "topShapes", unfollowed := true, recurses := true, plainKeys := false, apart := false }
def TopShapesSaid : Prop := topShapesRow.holds Tryz.pinned (OpenSpec.ofChange topShapesSpec)

/-- ITS FALSE NEIGHBOUR: 'it returns false'. Refute it at one input. -/
def topShapesWrong : ChangeSpec := { name := "topShapes", fn := fun _ => fun
  | [d1, d2] => { results := [.lit (.bool false)], args := [d1, d2] }
  | _ => none }
def TopShapesWrongFalsely : Prop := topShapesRow.holds Tryz.pinned (OpenSpec.ofChange topShapesWrong)

/-- 'psalterylaw24.GateBegins': WHATEVER THE INPUT: true; the input reads as it did. -/
def gateBeginsSpec : ChangeSpec := { name := "gateBegins", fn := fun _ => fun
  | [d] => { results := [.lit (.bool true)], args := [d] }
  | _ => none }
def gateBeginsRow : OpenClaim := { program := "ytccjaflkgllpeaagreat", sum := "caa23f59b12096ed21bc92404369b9d9097471dc91f1b9a57d92f1c486af9a9a", func := "psaltery/psalterylaw24.GateBegins", spec := "gateBegins", unfollowed := true, recurses := true, plainKeys := false, apart := false }
def GateBeginsSaid : Prop := gateBeginsRow.holds Tryz.pinned (OpenSpec.ofChange gateBeginsSpec)

/-- ITS FALSE NEIGHBOUR: 'it returns false'. Refute it at one input. -/
def gateBeginsWrong : ChangeSpec := { name := "gateBegins", fn := fun _ => fun
  | [d] => { results := [.lit (.bool false)], args := [d] }
  | _ => none }
def GateBeginsWrongFalsely : Prop := gateBeginsRow.holds Tryz.pinned (OpenSpec.ofChange gateBeginsWrong)

/-- 'psalterylaw24.GatePlays': WHATEVER THE INPUT: true; the input reads as it did. -/
def gatePlaysSpec : ChangeSpec := { name := "gatePlays", fn := fun _ => fun
  | [d1, d2] => { results := [.lit (.bool true)], args := [d1, d2] }
  | _ => none }
def gatePlaysRow : OpenClaim := { program := "ytccjaflkgllpeaagreat", sum := "caa23f59b12096ed21bc92404369b9d9097471dc91f1b9a57d92f1c486af9a9a", func := "psaltery/psalterylaw24.GatePlays", spec := "gatePlays", unfollowed := true, recurses := true, plainKeys := false, apart := false }
def GatePlaysSaid : Prop := gatePlaysRow.holds Tryz.pinned (OpenSpec.ofChange gatePlaysSpec)

/-- ITS FALSE NEIGHBOUR: 'it returns false'. Refute it at one input. -/
def gatePlaysWrong : ChangeSpec := { name := "gatePlays", fn := fun _ => fun
  | [d1, d2] => { results := [.lit (.bool false)], args := [d1, d2] }
  | _ => none }
def GatePlaysWrongFalsely : Prop := gatePlaysRow.holds Tryz.pinned (OpenSpec.ofChange gatePlaysWrong)

/-- 'psalterytop.TopForward': WHATEVER THE INPUT: true; the input reads as it did. -/
def topForwardSpec : ChangeSpec := { name := "topForward", fn := fun _ => fun
  | [d1, d2, d3, d4] => { results := [.lit (.bool true)], args := [d1, d2, d3, d4] }
  | _ => none }
def topForwardRow : OpenClaim := { program := "ytccjaflkgllpeaagreat", sum := "caa23f59b12096ed21bc92404369b9d9097471dc91f1b9a57d92f1c486af9a9a", func := "psaltery/psalterytop.TopForward", spec := "topForward", unfollowed := true, recurses := true, plainKeys := false, apart := false }
def TopForwardSaid : Prop := topForwardRow.holds Tryz.pinned (OpenSpec.ofChange topForwardSpec)

/-- ITS FALSE NEIGHBOUR: 'it returns false'. Refute it at one input. -/
def topForwardWrong : ChangeSpec := { name := "topForward", fn := fun _ => fun
  | [d1, d2, d3, d4] => { results := [.lit (.bool false)], args := [d1, d2, d3, d4] }
  | _ => none }
def TopForwardWrongFalsely : Prop := topForwardRow.holds Tryz.pinned (OpenSpec.ofChange topForwardWrong)

/-- 'psalterylaw24.GateKeeps': WHATEVER THE INPUT: true; the input reads as it did. -/
def gateKeepsSpec : ChangeSpec := { name := "gateKeeps", fn := fun _ => fun
  | [d1, d2] => { results := [.lit (.bool true)], args := [d1, d2] }
  | _ => none }
def gateKeepsRow : OpenClaim := { program := "ytccjaflkgllpeaagreat", sum := "caa23f59b12096ed21bc92404369b9d9097471dc91f1b9a57d92f1c486af9a9a", func := "psaltery/psalterylaw24.GateKeeps", spec := "gateKeeps", unfollowed := true, recurses := true, plainKeys := false, apart := false }
def GateKeepsSaid : Prop := gateKeepsRow.holds Tryz.pinned (OpenSpec.ofChange gateKeepsSpec)

/-- ITS FALSE NEIGHBOUR: 'it returns false'. Refute it at one input. -/
def gateKeepsWrong : ChangeSpec := { name := "gateKeeps", fn := fun _ => fun
  | [d1, d2] => { results := [.lit (.bool false)], args := [d1, d2] }
  | _ => none }
def GateKeepsWrongFalsely : Prop := gateKeepsRow.holds Tryz.pinned (OpenSpec.ofChange gateKeepsWrong)

/-- 'psalterylaw24.GateNil': WHATEVER THE INPUT: true; the input reads as it did. -/
def gateNilSpec : ChangeSpec := { name := "gateNil", fn := fun _ => fun
  | [d] => { results := [.lit (.bool true)], args := [d] }
  | _ => none }
def gateNilRow : OpenClaim := { program := "ytccjaflkgllpeaagreat", sum := "caa23f59b12096ed21bc92404369b9d9097471dc91f1b9a57d92f1c486af9a9a", func := "psaltery/psalterylaw24.GateNil", spec := "gateNil", unfollowed := true, recurses := true, plainKeys := false, apart := false }
def GateNilSaid : Prop := gateNilRow.holds Tryz.pinned (OpenSpec.ofChange gateNilSpec)

/-- ITS FALSE NEIGHBOUR: 'it returns false'. Refute it at one input. -/
def gateNilWrong : ChangeSpec := { name := "gateNil", fn := fun _ => fun
  | [d] => { results := [.lit (.bool false)], args := [d] }
  | _ => none }
def GateNilWrongFalsely : Prop := gateNilRow.holds Tryz.pinned (OpenSpec.ofChange gateNilWrong)

/-- 'psalterytop.TopAgain': WHATEVER THE INPUT: true; the input reads as it did. -/
def topAgainSpec : ChangeSpec := { name := "topAgain", fn := fun _ => fun
  | [d1, d2, d3, d4] => { results := [.lit (.bool true)], args := [d1, d2, d3, d4] }
  | _ => none }
def topAgainRow : OpenClaim := { program := "ytccjaflkgllpeaagreat", sum := "caa23f59b12096ed21bc92404369b9d9097471dc91f1b9a57d92f1c486af9a9a", func := "psaltery/psalterytop.TopAgain", spec := "topAgain", unfollowed := true, recurses := true, plainKeys := false, apart := false }
def TopAgainSaid : Prop := topAgainRow.holds Tryz.pinned (OpenSpec.ofChange topAgainSpec)

/-- ITS FALSE NEIGHBOUR: 'it returns false'. Refute it at one input. -/
def topAgainWrong : ChangeSpec := { name := "topAgain", fn := fun _ => fun
  | [d1, d2, d3, d4] => { results := [.lit (.bool false)], args := [d1, d2, d3, d4] }
  | _ => none }
def TopAgainWrongFalsely : Prop := topAgainRow.holds Tryz.pinned (OpenSpec.ofChange topAgainWrong)

/-- 'psalterylaw24.GateCloses': WHATEVER THE INPUT: true; the input reads as it did. -/
def gateClosesSpec : ChangeSpec := { name := "gateCloses", fn := fun _ => fun
  | [d1, d2, d3] => { results := [.lit (.bool true)], args := [d1, d2, d3] }
  | _ => none }
def gateClosesRow : OpenClaim := { program := "ytccjaflkgllpeaagreat", sum := "caa23f59b12096ed21bc92404369b9d9097471dc91f1b9a57d92f1c486af9a9a", func := "psaltery/psalterylaw24.GateCloses", spec := "gateCloses", unfollowed := true, recurses := true, plainKeys := false, apart := false }
def GateClosesSaid : Prop := gateClosesRow.holds Tryz.pinned (OpenSpec.ofChange gateClosesSpec)

/-- ITS FALSE NEIGHBOUR: 'it returns false'. Refute it at one input. -/
def gateClosesWrong : ChangeSpec := { name := "gateCloses", fn := fun _ => fun
  | [d1, d2, d3] => { results := [.lit (.bool false)], args := [d1, d2, d3] }
  | _ => none }
def GateClosesWrongFalsely : Prop := gateClosesRow.holds Tryz.pinned (OpenSpec.ofChange gateClosesWrong)

/-- 'psalterylaw25.LineGrams': WHATEVER THE INPUT: true; the input reads as it did. -/
def lineGramsSpec : ChangeSpec := { name := "lineGrams", fn := fun _ => fun
  | [d1, d2, d3] => { results := [.lit (.bool true)], args := [d1, d2, d3] }
  | _ => none }
def lineGramsRow : OpenClaim := { program := "ytccjaflkgllpeaagreat", sum := "caa23f59b12096ed21bc92404369b9d9097471dc91f1b9a57d92f1c486af9a9a", func := "psaltery/psalterylaw25.LineGrams", spec := "lineGrams", unfollowed := true, recurses := true, plainKeys := false, apart := false }
def LineGramsSaid : Prop := lineGramsRow.holds Tryz.pinned (OpenSpec.ofChange lineGramsSpec)

/-- ITS FALSE NEIGHBOUR: 'it returns false'. Refute it at one input. -/
def lineGramsWrong : ChangeSpec := { name := "lineGrams", fn := fun _ => fun
  | [d1, d2, d3] => { results := [.lit (.bool false)], args := [d1, d2, d3] }
  | _ => none }
def LineGramsWrongFalsely : Prop := lineGramsRow.holds Tryz.pinned (OpenSpec.ofChange lineGramsWrong)

/-- 'psalterylaw25.LinePages': WHATEVER THE INPUT: true; the input reads as it did. -/
def linePagesSpec : ChangeSpec := { name := "linePages", fn := fun _ => fun
  | [d] => { results := [.lit (.bool true)], args := [d] }
  | _ => none }
def linePagesRow : OpenClaim := { program := "ytccjaflkgllpeaagreat", sum := "caa23f59b12096ed21bc92404369b9d9097471dc91f1b9a57d92f1c486af9a9a", func := "psaltery/psalterylaw25.LinePages", spec := "linePages", unfollowed := true, recurses := true, plainKeys := false, apart := false }
def LinePagesSaid : Prop := linePagesRow.holds Tryz.pinned (OpenSpec.ofChange linePagesSpec)

/-- ITS FALSE NEIGHBOUR: 'it returns false'. Refute it at one input. -/
def linePagesWrong : ChangeSpec := { name := "linePages", fn := fun _ => fun
  | [d] => { results := [.lit (.bool false)], args := [d] }
  | _ => none }
def LinePagesWrongFalsely : Prop := linePagesRow.holds Tryz.pinned (OpenSpec.ofChange linePagesWrong)

/-- 'psalterylaw25.LineBegins': WHATEVER THE INPUT: true; the input reads as it did. -/
def lineBeginsSpec : ChangeSpec := { name := "lineBegins", fn := fun _ => fun
  | [d1, d2, d3, d4, d5] => { results := [.lit (.bool true)], args := [d1, d2, d3, d4, d5] }
  | _ => none }
def lineBeginsRow : OpenClaim := { program := "ytccjaflkgllpeaagreat", sum := "caa23f59b12096ed21bc92404369b9d9097471dc91f1b9a57d92f1c486af9a9a", func := "psaltery/psalterylaw25.LineBegins", spec := "lineBegins", unfollowed := true, recurses := true, plainKeys := false, apart := false }
def LineBeginsSaid : Prop := lineBeginsRow.holds Tryz.pinned (OpenSpec.ofChange lineBeginsSpec)

/-- ITS FALSE NEIGHBOUR: 'it returns false'. Refute it at one input. -/
def lineBeginsWrong : ChangeSpec := { name := "lineBegins", fn := fun _ => fun
  | [d1, d2, d3, d4, d5] => { results := [.lit (.bool false)], args := [d1, d2, d3, d4, d5] }
  | _ => none }
def LineBeginsWrongFalsely : Prop := lineBeginsRow.holds Tryz.pinned (OpenSpec.ofChange lineBeginsWrong)

/-- 'psalterylaw25.LineAgain': WHATEVER THE INPUT: true; the input reads as it did. -/
def lineAgainSpec : ChangeSpec := { name := "lineAgain", fn := fun _ => fun
  | [d1, d2, d3] => { results := [.lit (.bool true)], args := [d1, d2, d3] }
  | _ => none }
def lineAgainRow : OpenClaim := { program := "ytccjaflkgllpeaagreat", sum := "caa23f59b12096ed21bc92404369b9d9097471dc91f1b9a57d92f1c486af9a9a", func := "psaltery/psalterylaw25.LineAgain", spec := "lineAgain", unfollowed := true, recurses := true, plainKeys := false, apart := false }
def LineAgainSaid : Prop := lineAgainRow.holds Tryz.pinned (OpenSpec.ofChange lineAgainSpec)

/-- ITS FALSE NEIGHBOUR: 'it returns false'. Refute it at one input. -/
def lineAgainWrong : ChangeSpec := { name := "lineAgain", fn := fun _ => fun
  | [d1, d2, d3] => { results := [.lit (.bool false)], args := [d1, d2, d3] }
  | _ => none }
def LineAgainWrongFalsely : Prop := lineAgainRow.holds Tryz.pinned (OpenSpec.ofChange lineAgainWrong)

/-- 'psalterylaw25.LineMany': WHATEVER THE INPUT: true; the input reads as it did. -/
def lineManySpec : ChangeSpec := { name := "lineMany", fn := fun _ => fun
  | [d1, d2, d3, d4] => { results := [.lit (.bool true)], args := [d1, d2, d3, d4] }
  | _ => none }
def lineManyRow : OpenClaim := { program := "ytccjaflkgllpeaagreat", sum := "caa23f59b12096ed21bc92404369b9d9097471dc91f1b9a57d92f1c486af9a9a", func := "psaltery/psalterylaw25.LineMany", spec := "lineMany", unfollowed := true, recurses := true, plainKeys := false, apart := false }
def LineManySaid : Prop := lineManyRow.holds Tryz.pinned (OpenSpec.ofChange lineManySpec)

/-- ITS FALSE NEIGHBOUR: 'it returns false'. Refute it at one input. -/
def lineManyWrong : ChangeSpec := { name := "lineMany", fn := fun _ => fun
  | [d1, d2, d3, d4] => { results := [.lit (.bool false)], args := [d1, d2, d3, d4] }
  | _ => none }
def LineManyWrongFalsely : Prop := lineManyRow.holds Tryz.pinned (OpenSpec.ofChange lineManyWrong)

/-- 'psalterytop.TopBest': WHATEVER THE INPUT: true; the input reads as it did. -/
def topBestSpec : ChangeSpec := { name := "topBest", fn := fun _ => fun
  | [d1, d2] => { results := [.lit (.bool true)], args := [d1, d2] }
  | _ => none }
def topBestRow : OpenClaim := { program := "ytccjaflkgllpeaagreat", sum := "caa23f59b12096ed21bc92404369b9d9097471dc91f1b9a57d92f1c486af9a9a", func := "psaltery/psalterytop.TopBest", spec := "topBest", unfollowed := true, recurses := true, plainKeys := false, apart := false }
def TopBestSaid : Prop := topBestRow.holds Tryz.pinned (OpenSpec.ofChange topBestSpec)

/-- ITS FALSE NEIGHBOUR: 'it returns false'. Refute it at one input. -/
def topBestWrong : ChangeSpec := { name := "topBest", fn := fun _ => fun
  | [d1, d2] => { results := [.lit (.bool false)], args := [d1, d2] }
  | _ => none }
def TopBestWrongFalsely : Prop := topBestRow.holds Tryz.pinned (OpenSpec.ofChange topBestWrong)

/-- 'psalterytop.TopNear': WHATEVER THE INPUT: true; the input reads as it did. -/
def topNearSpec : ChangeSpec := { name := "topNear", fn := fun _ => fun
  | [d1, d2] => { results := [.lit (.bool true)], args := [d1, d2] }
  | _ => none }
def topNearRow : OpenClaim := { program := "ytccjaflkgllpeaagreat", sum := "caa23f59b12096ed21bc92404369b9d9097471dc91f1b9a57d92f1c486af9a9a", func := "psaltery/psalterytop.TopNear", spec := "topNear", unfollowed := true, recurses := true, plainKeys := false, apart := false }
def TopNearSaid : Prop := topNearRow.holds Tryz.pinned (OpenSpec.ofChange topNearSpec)

/-- ITS FALSE NEIGHBOUR: 'it returns false'. Refute it at one input. -/
def topNearWrong : ChangeSpec := { name := "topNear", fn := fun _ => fun
  | [d1, d2] => { results := [.lit (.bool false)], args := [d1, d2] }
  | _ => none }
def TopNearWrongFalsely : Prop := topNearRow.holds Tryz.pinned (OpenSpec.ofChange topNearWrong)

/-- 'psalterytop.TopBack': WHATEVER THE INPUT: true; the input reads as it did. -/
def topBackSpec : ChangeSpec := { name := "topBack", fn := fun _ => fun
  | [d1, d2, d3] => { results := [.lit (.bool true)], args := [d1, d2, d3] }
  | _ => none }
def topBackRow : OpenClaim := { program := "ytccjaflkgllpeaagreat", sum := "caa23f59b12096ed21bc92404369b9d9097471dc91f1b9a57d92f1c486af9a9a", func := "psaltery/psalterytop.TopBack", spec := "topBack", unfollowed := true, recurses := true, plainKeys := false, apart := false }
def TopBackSaid : Prop := topBackRow.holds Tryz.pinned (OpenSpec.ofChange topBackSpec)

/-- ITS FALSE NEIGHBOUR: 'it returns false'. Refute it at one input. -/
def topBackWrong : ChangeSpec := { name := "topBack", fn := fun _ => fun
  | [d1, d2, d3] => { results := [.lit (.bool false)], args := [d1, d2, d3] }
  | _ => none }
def TopBackWrongFalsely : Prop := topBackRow.holds Tryz.pinned (OpenSpec.ofChange topBackWrong)

/-- 'psalterytop.TopGrammar': WHATEVER THE INPUT: true; the input reads as it did. -/
def topGrammarSpec : ChangeSpec := { name := "topGrammar", fn := fun _ => fun
  | [d1, d2] => { results := [.lit (.bool true)], args := [d1, d2] }
  | _ => none }
def topGrammarRow : OpenClaim := { program := "ytccjaflkgllpeaagreat", sum := "caa23f59b12096ed21bc92404369b9d9097471dc91f1b9a57d92f1c486af9a9a", func := "psaltery/psalterytop.TopGrammar", spec := "topGrammar", unfollowed := true, recurses := true, plainKeys := false, apart := false }
def TopGrammarSaid : Prop := topGrammarRow.holds Tryz.pinned (OpenSpec.ofChange topGrammarSpec)

/-- ITS FALSE NEIGHBOUR: 'it returns false'. Refute it at one input. -/
def topGrammarWrong : ChangeSpec := { name := "topGrammar", fn := fun _ => fun
  | [d1, d2] => { results := [.lit (.bool false)], args := [d1, d2] }
  | _ => none }
def TopGrammarWrongFalsely : Prop := topGrammarRow.holds Tryz.pinned (OpenSpec.ofChange topGrammarWrong)

/- THE SECOND FORM. 'bulk': how many values and letters a reading holds, each counted each time it is reached (what is shared counts as often as it is met; a slice's spare places count too). A statement '..UptoSaid' is the law's where the arguments, and the package variables that the reading takes, are together of bulk at most 1048576: NARROWER than '..Said'. Prove '..Said' where nothing that the law and all that it calls make is longer than what came in: it says more and counts as full. Else prove '..UptoSaid'. A law counts once. -/
mutual
def uptoBulk {H : Type} : DataW H → Nat
  | .lit (.string bytes) => bytes.length + 1
  | .lit _ => 1
  | .nil => 1
  | .ptr d => uptoBulk d + 1
  | .slice elems spare => uptoBulkAll elems + uptoBulkAll spare + 1
  | .agg parts => uptoBulkAll parts + 1
  | .iface _ d => uptoBulk d + 1
  | .map entries => uptoBulkEntries entries + 1
  | .held _ => 1
def uptoBulkAll {H : Type} : List (DataW H) → Nat
  | [] => 0
  | d :: r => uptoBulk d + uptoBulkAll r
def uptoBulkEntries {H : Type} : List (Lit × DataW H) → Nat
  | [] => 0
  | x :: r => uptoBulkEntry x + uptoBulkEntries r
def uptoBulkEntry {H : Type} : Lit × DataW H → Nat
  | (.string bytes, d) => bytes.length + uptoBulk d + 1
  | (_, d) => uptoBulk d + 1
 end
def uptoSmall : (H : Type) → List (DataW H) → Bool := fun _ ds => decide (uptoBulkAll ds ≤ 1048576)
def OpenSpec.upto (s : _root_.Go.ChangeSpec) : _root_.Go.OpenSpec := { _root_.Go.OpenSpec.ofChange s with cond := some uptoSmall }

/-- 'psalterytop.TopShapes', WHERE WHAT IT READS IS OF BULK AT MOST 1048576: true; the input reads as it did. -/
def topShapesUptoRow : OpenClaim := { program := "ytccjaflkgllpeaagreat", sum := "caa23f59b12096ed21bc92404369b9d9097471dc91f1b9a57d92f1c486af9a9a", func := "psaltery/psalterytop.TopShapes", spec := "topShapes", unfollowed := true, recurses := true, plainKeys := false, apart := false, narrowed := true }
def TopShapesUptoSaid : Prop := topShapesUptoRow.holds Tryz.pinned (OpenSpec.upto topShapesSpec)

/-- 'psalterylaw24.GateBegins', WHERE WHAT IT READS IS OF BULK AT MOST 1048576: true; the input reads as it did. -/
def gateBeginsUptoRow : OpenClaim := { program := "ytccjaflkgllpeaagreat", sum := "caa23f59b12096ed21bc92404369b9d9097471dc91f1b9a57d92f1c486af9a9a", func := "psaltery/psalterylaw24.GateBegins", spec := "gateBegins", unfollowed := true, recurses := true, plainKeys := false, apart := false, narrowed := true }
def GateBeginsUptoSaid : Prop := gateBeginsUptoRow.holds Tryz.pinned (OpenSpec.upto gateBeginsSpec)

/-- 'psalterylaw24.GatePlays', WHERE WHAT IT READS IS OF BULK AT MOST 1048576: true; the input reads as it did. -/
def gatePlaysUptoRow : OpenClaim := { program := "ytccjaflkgllpeaagreat", sum := "caa23f59b12096ed21bc92404369b9d9097471dc91f1b9a57d92f1c486af9a9a", func := "psaltery/psalterylaw24.GatePlays", spec := "gatePlays", unfollowed := true, recurses := true, plainKeys := false, apart := false, narrowed := true }
def GatePlaysUptoSaid : Prop := gatePlaysUptoRow.holds Tryz.pinned (OpenSpec.upto gatePlaysSpec)

/-- 'psalterytop.TopForward', WHERE WHAT IT READS IS OF BULK AT MOST 1048576: true; the input reads as it did. -/
def topForwardUptoRow : OpenClaim := { program := "ytccjaflkgllpeaagreat", sum := "caa23f59b12096ed21bc92404369b9d9097471dc91f1b9a57d92f1c486af9a9a", func := "psaltery/psalterytop.TopForward", spec := "topForward", unfollowed := true, recurses := true, plainKeys := false, apart := false, narrowed := true }
def TopForwardUptoSaid : Prop := topForwardUptoRow.holds Tryz.pinned (OpenSpec.upto topForwardSpec)

/-- 'psalterylaw24.GateKeeps', WHERE WHAT IT READS IS OF BULK AT MOST 1048576: true; the input reads as it did. -/
def gateKeepsUptoRow : OpenClaim := { program := "ytccjaflkgllpeaagreat", sum := "caa23f59b12096ed21bc92404369b9d9097471dc91f1b9a57d92f1c486af9a9a", func := "psaltery/psalterylaw24.GateKeeps", spec := "gateKeeps", unfollowed := true, recurses := true, plainKeys := false, apart := false, narrowed := true }
def GateKeepsUptoSaid : Prop := gateKeepsUptoRow.holds Tryz.pinned (OpenSpec.upto gateKeepsSpec)

/-- 'psalterylaw24.GateNil', WHERE WHAT IT READS IS OF BULK AT MOST 1048576: true; the input reads as it did. -/
def gateNilUptoRow : OpenClaim := { program := "ytccjaflkgllpeaagreat", sum := "caa23f59b12096ed21bc92404369b9d9097471dc91f1b9a57d92f1c486af9a9a", func := "psaltery/psalterylaw24.GateNil", spec := "gateNil", unfollowed := true, recurses := true, plainKeys := false, apart := false, narrowed := true }
def GateNilUptoSaid : Prop := gateNilUptoRow.holds Tryz.pinned (OpenSpec.upto gateNilSpec)

/-- 'psalterytop.TopAgain', WHERE WHAT IT READS IS OF BULK AT MOST 1048576: true; the input reads as it did. -/
def topAgainUptoRow : OpenClaim := { program := "ytccjaflkgllpeaagreat", sum := "caa23f59b12096ed21bc92404369b9d9097471dc91f1b9a57d92f1c486af9a9a", func := "psaltery/psalterytop.TopAgain", spec := "topAgain", unfollowed := true, recurses := true, plainKeys := false, apart := false, narrowed := true }
def TopAgainUptoSaid : Prop := topAgainUptoRow.holds Tryz.pinned (OpenSpec.upto topAgainSpec)

/-- 'psalterylaw24.GateCloses', WHERE WHAT IT READS IS OF BULK AT MOST 1048576: true; the input reads as it did. -/
def gateClosesUptoRow : OpenClaim := { program := "ytccjaflkgllpeaagreat", sum := "caa23f59b12096ed21bc92404369b9d9097471dc91f1b9a57d92f1c486af9a9a", func := "psaltery/psalterylaw24.GateCloses", spec := "gateCloses", unfollowed := true, recurses := true, plainKeys := false, apart := false, narrowed := true }
def GateClosesUptoSaid : Prop := gateClosesUptoRow.holds Tryz.pinned (OpenSpec.upto gateClosesSpec)

/-- 'psalterylaw25.LineGrams', WHERE WHAT IT READS IS OF BULK AT MOST 1048576: true; the input reads as it did. -/
def lineGramsUptoRow : OpenClaim := { program := "ytccjaflkgllpeaagreat", sum := "caa23f59b12096ed21bc92404369b9d9097471dc91f1b9a57d92f1c486af9a9a", func := "psaltery/psalterylaw25.LineGrams", spec := "lineGrams", unfollowed := true, recurses := true, plainKeys := false, apart := false, narrowed := true }
def LineGramsUptoSaid : Prop := lineGramsUptoRow.holds Tryz.pinned (OpenSpec.upto lineGramsSpec)

/-- 'psalterylaw25.LinePages', WHERE WHAT IT READS IS OF BULK AT MOST 1048576: true; the input reads as it did. -/
def linePagesUptoRow : OpenClaim := { program := "ytccjaflkgllpeaagreat", sum := "caa23f59b12096ed21bc92404369b9d9097471dc91f1b9a57d92f1c486af9a9a", func := "psaltery/psalterylaw25.LinePages", spec := "linePages", unfollowed := true, recurses := true, plainKeys := false, apart := false, narrowed := true }
def LinePagesUptoSaid : Prop := linePagesUptoRow.holds Tryz.pinned (OpenSpec.upto linePagesSpec)

/-- 'psalterylaw25.LineBegins', WHERE WHAT IT READS IS OF BULK AT MOST 1048576: true; the input reads as it did. -/
def lineBeginsUptoRow : OpenClaim := { program := "ytccjaflkgllpeaagreat", sum := "caa23f59b12096ed21bc92404369b9d9097471dc91f1b9a57d92f1c486af9a9a", func := "psaltery/psalterylaw25.LineBegins", spec := "lineBegins", unfollowed := true, recurses := true, plainKeys := false, apart := false, narrowed := true }
def LineBeginsUptoSaid : Prop := lineBeginsUptoRow.holds Tryz.pinned (OpenSpec.upto lineBeginsSpec)

/-- 'psalterylaw25.LineAgain', WHERE WHAT IT READS IS OF BULK AT MOST 1048576: true; the input reads as it did. -/
def lineAgainUptoRow : OpenClaim := { program := "ytccjaflkgllpeaagreat", sum := "caa23f59b12096ed21bc92404369b9d9097471dc91f1b9a57d92f1c486af9a9a", func := "psaltery/psalterylaw25.LineAgain", spec := "lineAgain", unfollowed := true, recurses := true, plainKeys := false, apart := false, narrowed := true }
def LineAgainUptoSaid : Prop := lineAgainUptoRow.holds Tryz.pinned (OpenSpec.upto lineAgainSpec)

/-- 'psalterylaw25.LineMany', WHERE WHAT IT READS IS OF BULK AT MOST 1048576: true; the input reads as it did. -/
def lineManyUptoRow : OpenClaim := { program := "ytccjaflkgllpeaagreat", sum := "caa23f59b12096ed21bc92404369b9d9097471dc91f1b9a57d92f1c486af9a9a", func := "psaltery/psalterylaw25.LineMany", spec := "lineMany", unfollowed := true, recurses := true, plainKeys := false, apart := false, narrowed := true }
def LineManyUptoSaid : Prop := lineManyUptoRow.holds Tryz.pinned (OpenSpec.upto lineManySpec)

/-- 'psalterytop.TopBest', WHERE WHAT IT READS IS OF BULK AT MOST 1048576: true; the input reads as it did. -/
def topBestUptoRow : OpenClaim := { program := "ytccjaflkgllpeaagreat", sum := "caa23f59b12096ed21bc92404369b9d9097471dc91f1b9a57d92f1c486af9a9a", func := "psaltery/psalterytop.TopBest", spec := "topBest", unfollowed := true, recurses := true, plainKeys := false, apart := false, narrowed := true }
def TopBestUptoSaid : Prop := topBestUptoRow.holds Tryz.pinned (OpenSpec.upto topBestSpec)

/-- 'psalterytop.TopNear', WHERE WHAT IT READS IS OF BULK AT MOST 1048576: true; the input reads as it did. -/
def topNearUptoRow : OpenClaim := { program := "ytccjaflkgllpeaagreat", sum := "caa23f59b12096ed21bc92404369b9d9097471dc91f1b9a57d92f1c486af9a9a", func := "psaltery/psalterytop.TopNear", spec := "topNear", unfollowed := true, recurses := true, plainKeys := false, apart := false, narrowed := true }
def TopNearUptoSaid : Prop := topNearUptoRow.holds Tryz.pinned (OpenSpec.upto topNearSpec)

/-- 'psalterytop.TopBack', WHERE WHAT IT READS IS OF BULK AT MOST 1048576: true; the input reads as it did. -/
def topBackUptoRow : OpenClaim := { program := "ytccjaflkgllpeaagreat", sum := "caa23f59b12096ed21bc92404369b9d9097471dc91f1b9a57d92f1c486af9a9a", func := "psaltery/psalterytop.TopBack", spec := "topBack", unfollowed := true, recurses := true, plainKeys := false, apart := false, narrowed := true }
def TopBackUptoSaid : Prop := topBackUptoRow.holds Tryz.pinned (OpenSpec.upto topBackSpec)

/-- 'psalterytop.TopGrammar', WHERE WHAT IT READS IS OF BULK AT MOST 1048576: true; the input reads as it did. -/
def topGrammarUptoRow : OpenClaim := { program := "ytccjaflkgllpeaagreat", sum := "caa23f59b12096ed21bc92404369b9d9097471dc91f1b9a57d92f1c486af9a9a", func := "psaltery/psalterytop.TopGrammar", spec := "topGrammar", unfollowed := true, recurses := true, plainKeys := false, apart := false, narrowed := true }
def TopGrammarUptoSaid : Prop := topGrammarUptoRow.holds Tryz.pinned (OpenSpec.upto topGrammarSpec)

end Rows
end Go.Proofs.YtccjaflkgllpeaaGreat
