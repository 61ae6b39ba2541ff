/-
  No cell of these rows narrows 'for every input' (looked for: loops, veiled, ifaces, maps, wideKeys, modest, calm, conditions, laid).
  DERIVED. THE GIVEN ROWS OF THIS SEAT. 6 by the template 'for every input the law returns true; each argument reads behind the call as it read before'; 0 by the template 'total and deterministic' (their statements: YtjcjoeechmlpgaaGreatTotals.lean).
  GIVEN WITH THE SEED: the statements are not yours to turn. If you find one false, say at which input.
  Laid BY PROGRAM, IN A SANDBOX (cutbox-rows.mjs): the forced cells as the released guide's own fill.sh prints them over the translation 5f00bd9e1d5cb8f1… (all of the seat's roots in one cut). By AI agents, Wed Nov 11 2026. No macro, syntax, notation, axiom, sorry.
-/
import Derived.Test.YtjcjoeechmlpgaaGreatChecked
import GoSem.Claim
import GoSem.ClaimJoined
import GoSem.ClaimMapViews
import Derived.JoinedTies
import Derived.KernelRfl
namespace Go.Proofs.YtjcjoeechmlpgaaGreat
/- THE CELL 'sum', in the pinned program and in every row, IS THE sha256 OF THE DUMP (.gsa) THAT YtjcjoeechmlpgaaGreatProg.lean LOADS. Nothing in Lean hashes anything: it is a label: what it is worth is what the hold of that sum in a sandbox is worth. -/
noncomputable def Tryz.pinned : Pinned := { name := "ytjcjoeechmlpgaagreat", sum := "5f00bd9e1d5cb8f18c584ca3884e6ff4b3eddb638d01fe68f7cfa19fb3d29e49", checked := Tryz.checked }
namespace Rows
def none {H : Type} : Left H := { results := [], args := [] }

/-- 'mandolinelaw42.EntryPlays': WHATEVER THE INPUT: true; the input reads as it did. -/
def entryPlaysSpec : ChangeSpec := { name := "entryPlays", fn := fun _ => fun
  | [d] => { results := [.lit (.bool true)], args := [d] }
  | _ => none }
def entryPlaysRow : OpenClaim := { program := "ytjcjoeechmlpgaagreat", sum := "5f00bd9e1d5cb8f18c584ca3884e6ff4b3eddb638d01fe68f7cfa19fb3d29e49", func := "mandoline/mandolinelaw42.EntryPlays", spec := "entryPlays", unfollowed := true, recurses := true, apart := false }
def EntryPlaysSaid : Prop := entryPlaysRow.holds Tryz.pinned (OpenSpec.ofChange entryPlaysSpec)

/-- ITS FALSE NEIGHBOUR: 'it returns false'. Refute it at one input. -/
def entryPlaysWrong : ChangeSpec := { name := "entryPlays", fn := fun _ => fun
  | [d] => { results := [.lit (.bool false)], args := [d] }
  | _ => none }
def EntryPlaysWrongFalsely : Prop := entryPlaysRow.holds Tryz.pinned (OpenSpec.ofChange entryPlaysWrong)

/-- 'mandolinelaw42.EntryLoads': WHATEVER THE INPUT: true; the input reads as it did. -/
def entryLoadsSpec : ChangeSpec := { name := "entryLoads", fn := fun _ => fun
  | [d1, d2, d3] => { results := [.lit (.bool true)], args := [d1, d2, d3] }
  | _ => none }
def entryLoadsRow : OpenClaim := { program := "ytjcjoeechmlpgaagreat", sum := "5f00bd9e1d5cb8f18c584ca3884e6ff4b3eddb638d01fe68f7cfa19fb3d29e49", func := "mandoline/mandolinelaw42.EntryLoads", spec := "entryLoads", unfollowed := true, recurses := true, apart := false }
def EntryLoadsSaid : Prop := entryLoadsRow.holds Tryz.pinned (OpenSpec.ofChange entryLoadsSpec)

/-- ITS FALSE NEIGHBOUR: 'it returns false'. Refute it at one input. -/
def entryLoadsWrong : ChangeSpec := { name := "entryLoads", fn := fun _ => fun
  | [d1, d2, d3] => { results := [.lit (.bool false)], args := [d1, d2, d3] }
  | _ => none }
def EntryLoadsWrongFalsely : Prop := entryLoadsRow.holds Tryz.pinned (OpenSpec.ofChange entryLoadsWrong)

/-- 'mandolinelaw42.EntryCovers': WHATEVER THE INPUT: true; the input reads as it did. -/
def entryCoversSpec : ChangeSpec := { name := "entryCovers", fn := fun _ => fun
  | [d1, d2, d3] => { results := [.lit (.bool true)], args := [d1, d2, d3] }
  | _ => none }
def entryCoversRow : OpenClaim := { program := "ytjcjoeechmlpgaagreat", sum := "5f00bd9e1d5cb8f18c584ca3884e6ff4b3eddb638d01fe68f7cfa19fb3d29e49", func := "mandoline/mandolinelaw42.EntryCovers", spec := "entryCovers", unfollowed := true, recurses := true, apart := false }
def EntryCoversSaid : Prop := entryCoversRow.holds Tryz.pinned (OpenSpec.ofChange entryCoversSpec)

/-- ITS FALSE NEIGHBOUR: 'it returns false'. Refute it at one input. -/
def entryCoversWrong : ChangeSpec := { name := "entryCovers", fn := fun _ => fun
  | [d1, d2, d3] => { results := [.lit (.bool false)], args := [d1, d2, d3] }
  | _ => none }
def EntryCoversWrongFalsely : Prop := entryCoversRow.holds Tryz.pinned (OpenSpec.ofChange entryCoversWrong)

/-- 'mandolinelaw42.EntryOne': WHATEVER THE INPUT: true; the input reads as it did. -/
def entryOneSpec : ChangeSpec := { name := "entryOne", fn := fun _ => fun
  | [d1, d2, d3] => { results := [.lit (.bool true)], args := [d1, d2, d3] }
  | _ => none }
def entryOneRow : OpenClaim := { program := "ytjcjoeechmlpgaagreat", sum := "5f00bd9e1d5cb8f18c584ca3884e6ff4b3eddb638d01fe68f7cfa19fb3d29e49", func := "mandoline/mandolinelaw42.EntryOne", spec := "entryOne", unfollowed := true, recurses := true, apart := false }
def EntryOneSaid : Prop := entryOneRow.holds Tryz.pinned (OpenSpec.ofChange entryOneSpec)

/-- ITS FALSE NEIGHBOUR: 'it returns false'. Refute it at one input. -/
def entryOneWrong : ChangeSpec := { name := "entryOne", fn := fun _ => fun
  | [d1, d2, d3] => { results := [.lit (.bool false)], args := [d1, d2, d3] }
  | _ => none }
def EntryOneWrongFalsely : Prop := entryOneRow.holds Tryz.pinned (OpenSpec.ofChange entryOneWrong)

/-- 'mandolinelaw42.EntryUses': WHATEVER THE INPUT: true; the input reads as it did. -/
def entryUsesSpec : ChangeSpec := { name := "entryUses", fn := fun _ => fun
  | [d1, d2, d3] => { results := [.lit (.bool true)], args := [d1, d2, d3] }
  | _ => none }
def entryUsesRow : OpenClaim := { program := "ytjcjoeechmlpgaagreat", sum := "5f00bd9e1d5cb8f18c584ca3884e6ff4b3eddb638d01fe68f7cfa19fb3d29e49", func := "mandoline/mandolinelaw42.EntryUses", spec := "entryUses", unfollowed := true, recurses := true, apart := false }
def EntryUsesSaid : Prop := entryUsesRow.holds Tryz.pinned (OpenSpec.ofChange entryUsesSpec)

/-- ITS FALSE NEIGHBOUR: 'it returns false'. Refute it at one input. -/
def entryUsesWrong : ChangeSpec := { name := "entryUses", fn := fun _ => fun
  | [d1, d2, d3] => { results := [.lit (.bool false)], args := [d1, d2, d3] }
  | _ => none }
def EntryUsesWrongFalsely : Prop := entryUsesRow.holds Tryz.pinned (OpenSpec.ofChange entryUsesWrong)

/-- 'mandolinelaw42.EntryNil': WHATEVER THE INPUT: true; the input reads as it did. -/
def entryNilSpec : ChangeSpec := { name := "entryNil", fn := fun _ => fun
  | [d] => { results := [.lit (.bool true)], args := [d] }
  | _ => none }
def entryNilRow : OpenClaim := { program := "ytjcjoeechmlpgaagreat", sum := "5f00bd9e1d5cb8f18c584ca3884e6ff4b3eddb638d01fe68f7cfa19fb3d29e49", func := "mandoline/mandolinelaw42.EntryNil", spec := "entryNil", unfollowed := true, recurses := true, apart := false }
def EntryNilSaid : Prop := entryNilRow.holds Tryz.pinned (OpenSpec.ofChange entryNilSpec)

/-- ITS FALSE NEIGHBOUR: 'it returns false'. Refute it at one input. -/
def entryNilWrong : ChangeSpec := { name := "entryNil", fn := fun _ => fun
  | [d] => { results := [.lit (.bool false)], args := [d] }
  | _ => none }
def EntryNilWrongFalsely : Prop := entryNilRow.holds Tryz.pinned (OpenSpec.ofChange entryNilWrong)

/- THE SECOND FORM. 'bulk': how many values and letters a reading holds, each counted each time it is reached (what is shared counts as often as it is met; a slice's spare places count too). A statement '..UptoSaid' is the law's where the arguments, and the package variables that the reading takes, are together of bulk at most 1048576: NARROWER than '..Said'. Prove '..Said' where nothing that the law and all that it calls make is longer than what came in: it says more and counts as full. Else prove '..UptoSaid'. A law counts once. -/
mutual
def uptoBulk {H : Type} : DataW H → Nat
  | .lit (.string bytes) => bytes.length + 1
  | .lit _ => 1
  | .nil => 1
  | .ptr d => uptoBulk d + 1
  | .slice elems spare => uptoBulkAll elems + uptoBulkAll spare + 1
  | .agg parts => uptoBulkAll parts + 1
  | .iface _ d => uptoBulk d + 1
  | .map entries => uptoBulkEntries entries + 1
  | .held _ => 1
def uptoBulkAll {H : Type} : List (DataW H) → Nat
  | [] => 0
  | d :: r => uptoBulk d + uptoBulkAll r
def uptoBulkEntries {H : Type} : List (Lit × DataW H) → Nat
  | [] => 0
  | x :: r => uptoBulkEntry x + uptoBulkEntries r
def uptoBulkEntry {H : Type} : Lit × DataW H → Nat
  | (.string bytes, d) => bytes.length + uptoBulk d + 1
  | (_, d) => uptoBulk d + 1
 end
def uptoSmall : (H : Type) → List (DataW H) → Bool := fun _ ds => decide (uptoBulkAll ds ≤ 1048576)
def OpenSpec.upto (s : _root_.Go.ChangeSpec) : _root_.Go.OpenSpec := { _root_.Go.OpenSpec.ofChange s with cond := some uptoSmall }

/-- 'mandolinelaw42.EntryPlays', WHERE WHAT IT READS IS OF BULK AT MOST 1048576: true; the input reads as it did. -/
def entryPlaysUptoRow : OpenClaim := { program := "ytjcjoeechmlpgaagreat", sum := "5f00bd9e1d5cb8f18c584ca3884e6ff4b3eddb638d01fe68f7cfa19fb3d29e49", func := "mandoline/mandolinelaw42.EntryPlays", spec := "entryPlays", unfollowed := true, recurses := true, apart := false, narrowed := true }
def EntryPlaysUptoSaid : Prop := entryPlaysUptoRow.holds Tryz.pinned (OpenSpec.upto entryPlaysSpec)

/-- 'mandolinelaw42.EntryLoads', WHERE WHAT IT READS IS OF BULK AT MOST 1048576: true; the input reads as it did. -/
def entryLoadsUptoRow : OpenClaim := { program := "ytjcjoeechmlpgaagreat", sum := "5f00bd9e1d5cb8f18c584ca3884e6ff4b3eddb638d01fe68f7cfa19fb3d29e49", func := "mandoline/mandolinelaw42.EntryLoads", spec := "entryLoads", unfollowed := true, recurses := true, apart := false, narrowed := true }
def EntryLoadsUptoSaid : Prop := entryLoadsUptoRow.holds Tryz.pinned (OpenSpec.upto entryLoadsSpec)

/-- 'mandolinelaw42.EntryCovers', WHERE WHAT IT READS IS OF BULK AT MOST 1048576: true; the input reads as it did. -/
def entryCoversUptoRow : OpenClaim := { program := "ytjcjoeechmlpgaagreat", sum := "5f00bd9e1d5cb8f18c584ca3884e6ff4b3eddb638d01fe68f7cfa19fb3d29e49", func := "mandoline/mandolinelaw42.EntryCovers", spec := "entryCovers", unfollowed := true, recurses := true, apart := false, narrowed := true }
def EntryCoversUptoSaid : Prop := entryCoversUptoRow.holds Tryz.pinned (OpenSpec.upto entryCoversSpec)

/-- 'mandolinelaw42.EntryOne', WHERE WHAT IT READS IS OF BULK AT MOST 1048576: true; the input reads as it did. -/
def entryOneUptoRow : OpenClaim := { program := "ytjcjoeechmlpgaagreat", sum := "5f00bd9e1d5cb8f18c584ca3884e6ff4b3eddb638d01fe68f7cfa19fb3d29e49", func := "mandoline/mandolinelaw42.EntryOne", spec := "entryOne", unfollowed := true, recurses := true, apart := false, narrowed := true }
def EntryOneUptoSaid : Prop := entryOneUptoRow.holds Tryz.pinned (OpenSpec.upto entryOneSpec)

/-- 'mandolinelaw42.EntryUses', WHERE WHAT IT READS IS OF BULK AT MOST 1048576: true; the input reads as it did. -/
def entryUsesUptoRow : OpenClaim := { program := "ytjcjoeechmlpgaagreat", sum := "5f00bd9e1d5cb8f18c584ca3884e6ff4b3eddb638d01fe68f7cfa19fb3d29e49", func := "mandoline/mandolinelaw42.EntryUses", spec := "entryUses", unfollowed := true, recurses := true, apart := false, narrowed := true }
def EntryUsesUptoSaid : Prop := entryUsesUptoRow.holds Tryz.pinned (OpenSpec.upto entryUsesSpec)

/-- 'mandolinelaw42.EntryNil', WHERE WHAT IT READS IS OF BULK AT MOST 1048576: true; the input reads as it did. -/
def entryNilUptoRow : OpenClaim := { program := "ytjcjoeechmlpgaagreat", sum := "5f00bd9e1d5cb8f18c584ca3884e6ff4b3eddb638d01fe68f7cfa19fb3d29e49", func := "mandoline/mandolinelaw42.EntryNil", spec := "entryNil", unfollowed := true, recurses := true, apart := false, narrowed := true }
def EntryNilUptoSaid : Prop := entryNilUptoRow.holds Tryz.pinned (OpenSpec.upto entryNilSpec)

end Rows
end Go.Proofs.YtjcjoeechmlpgaaGreat
