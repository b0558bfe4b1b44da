/-
  No cell of these rows narrows 'for every input' (looked for: loops, veiled, ifaces, maps, wideKeys, modest, calm, conditions, laid).
  DERIVED. THE GIVEN ROWS OF THIS SEAT. 10 by the template 'for every input the law returns true; each argument reads behind the call as it read before'; 0 by the template 'total and deterministic' (their statements: YteggldplmbegfaaTotals.lean).
  GIVEN WITH THE SEED: the statements are not yours to turn. If you find one false, say at which input.
  Laid BY PROGRAM, IN A SANDBOX (cutbox-rows.mjs): the forced cells as the released guide's own fill.sh prints them over the translation 8e9956bd33d21e5f… (all of the seat's roots in one cut). By AI agents, Wed Nov 11 2026. No macro, syntax, notation, axiom, sorry.
-/
import Derived.Test.YteggldplmbegfaaChecked
import GoSem.Claim
import GoSem.ClaimJoined
import GoSem.ClaimMapViews
import Derived.JoinedTies
import Derived.KernelRfl
namespace Go.Proofs.Yteggldplmbegfaa
/- THE CELL 'sum', in the pinned program and in every row, IS THE sha256 OF THE DUMP (.gsa) THAT YteggldplmbegfaaProg.lean LOADS. Nothing in Lean hashes anything: it is a label: what it is worth is what the hold of that sum in a sandbox is worth. -/
noncomputable def Try.pinned : Pinned := { name := "yteggldplmbegfaa", sum := "8e9956bd33d21e5ff5d48180e7e3fa953fb02e10be6a65f8e9ab56c23409ea4c", checked := Try.checked }
namespace Rows
def none {H : Type} : Left H := { results := [], args := [] }

/-- 'wardshiplaw03.DeviceSure': WHATEVER THE INPUT: true; the input reads as it did. -/
def deviceSureSpec : ChangeSpec := { name := "deviceSure", fn := fun _ => fun
  | [d1, d2, d3] => { results := [.lit (.bool true)], args := [d1, d2, d3] }
  | _ => none }
def deviceSureRow : OpenClaim := { program := "yteggldplmbegfaa", sum := "8e9956bd33d21e5ff5d48180e7e3fa953fb02e10be6a65f8e9ab56c23409ea4c", func := "wardship/wardshiplaw03.DeviceSure", spec := "deviceSure", apart := false }
def DeviceSureSaid : Prop := deviceSureRow.holds Try.pinned (OpenSpec.ofChange deviceSureSpec)

/-- ITS FALSE NEIGHBOUR: 'it returns false'. Refute it at one input. -/
def deviceSureWrong : ChangeSpec := { name := "deviceSure", fn := fun _ => fun
  | [d1, d2, d3] => { results := [.lit (.bool false)], args := [d1, d2, d3] }
  | _ => none }
def DeviceSureWrongFalsely : Prop := deviceSureRow.holds Try.pinned (OpenSpec.ofChange deviceSureWrong)

/-- 'wardshiplaw04.JournalArgs': WHATEVER THE INPUT: true; the input reads as it did. -/
def journalArgsSpec : ChangeSpec := { name := "journalArgs", fn := fun _ => fun
  | [d1, d2] => { results := [.lit (.bool true)], args := [d1, d2] }
  | _ => none }
def journalArgsRow : OpenClaim := { program := "yteggldplmbegfaa", sum := "8e9956bd33d21e5ff5d48180e7e3fa953fb02e10be6a65f8e9ab56c23409ea4c", func := "wardship/wardshiplaw04.JournalArgs", spec := "journalArgs", unfollowed := true, recurses := true, apart := false }
def JournalArgsSaid : Prop := journalArgsRow.holds Try.pinned (OpenSpec.ofChange journalArgsSpec)

/-- ITS FALSE NEIGHBOUR: 'it returns false'. Refute it at one input. -/
def journalArgsWrong : ChangeSpec := { name := "journalArgs", fn := fun _ => fun
  | [d1, d2] => { results := [.lit (.bool false)], args := [d1, d2] }
  | _ => none }
def JournalArgsWrongFalsely : Prop := journalArgsRow.holds Try.pinned (OpenSpec.ofChange journalArgsWrong)

/-- 'wardshiplaw04.JournalFinds': WHATEVER THE INPUT: true; the input reads as it did. -/
def journalFindsSpec : ChangeSpec := { name := "journalFinds", fn := fun _ => fun
  | [d] => { results := [.lit (.bool true)], args := [d] }
  | _ => none }
def journalFindsRow : OpenClaim := { program := "yteggldplmbegfaa", sum := "8e9956bd33d21e5ff5d48180e7e3fa953fb02e10be6a65f8e9ab56c23409ea4c", func := "wardship/wardshiplaw04.JournalFinds", spec := "journalFinds", unfollowed := true, recurses := true, apart := false }
def JournalFindsSaid : Prop := journalFindsRow.holds Try.pinned (OpenSpec.ofChange journalFindsSpec)

/-- ITS FALSE NEIGHBOUR: 'it returns false'. Refute it at one input. -/
def journalFindsWrong : ChangeSpec := { name := "journalFinds", fn := fun _ => fun
  | [d] => { results := [.lit (.bool false)], args := [d] }
  | _ => none }
def JournalFindsWrongFalsely : Prop := journalFindsRow.holds Try.pinned (OpenSpec.ofChange journalFindsWrong)

/-- 'wardshiplaw04.JournalRoom': WHATEVER THE INPUT: true; the input reads as it did. -/
def journalRoomSpec : ChangeSpec := { name := "journalRoom", fn := fun _ => fun
  | [d1, d2] => { results := [.lit (.bool true)], args := [d1, d2] }
  | _ => none }
def journalRoomRow : OpenClaim := { program := "yteggldplmbegfaa", sum := "8e9956bd33d21e5ff5d48180e7e3fa953fb02e10be6a65f8e9ab56c23409ea4c", func := "wardship/wardshiplaw04.JournalRoom", spec := "journalRoom", unfollowed := true, recurses := true, apart := false }
def JournalRoomSaid : Prop := journalRoomRow.holds Try.pinned (OpenSpec.ofChange journalRoomSpec)

/-- ITS FALSE NEIGHBOUR: 'it returns false'. Refute it at one input. -/
def journalRoomWrong : ChangeSpec := { name := "journalRoom", fn := fun _ => fun
  | [d1, d2] => { results := [.lit (.bool false)], args := [d1, d2] }
  | _ => none }
def JournalRoomWrongFalsely : Prop := journalRoomRow.holds Try.pinned (OpenSpec.ofChange journalRoomWrong)

/-- 'wardshiplaw04.JournalAtomic': WHATEVER THE INPUT: true; the input reads as it did. -/
def journalAtomicSpec : ChangeSpec := { name := "journalAtomic", fn := fun _ => fun
  | [d1, d2, d3] => { results := [.lit (.bool true)], args := [d1, d2, d3] }
  | _ => none }
def journalAtomicRow : OpenClaim := { program := "yteggldplmbegfaa", sum := "8e9956bd33d21e5ff5d48180e7e3fa953fb02e10be6a65f8e9ab56c23409ea4c", func := "wardship/wardshiplaw04.JournalAtomic", spec := "journalAtomic", unfollowed := true, recurses := true, apart := false }
def JournalAtomicSaid : Prop := journalAtomicRow.holds Try.pinned (OpenSpec.ofChange journalAtomicSpec)

/-- ITS FALSE NEIGHBOUR: 'it returns false'. Refute it at one input. -/
def journalAtomicWrong : ChangeSpec := { name := "journalAtomic", fn := fun _ => fun
  | [d1, d2, d3] => { results := [.lit (.bool false)], args := [d1, d2, d3] }
  | _ => none }
def JournalAtomicWrongFalsely : Prop := journalAtomicRow.holds Try.pinned (OpenSpec.ofChange journalAtomicWrong)

/-- 'wardshiplaw04.JournalPlays': WHATEVER THE INPUT: true; the input reads as it did. -/
def journalPlaysSpec : ChangeSpec := { name := "journalPlays", fn := fun _ => fun
  | [d1, d2] => { results := [.lit (.bool true)], args := [d1, d2] }
  | _ => none }
def journalPlaysRow : OpenClaim := { program := "yteggldplmbegfaa", sum := "8e9956bd33d21e5ff5d48180e7e3fa953fb02e10be6a65f8e9ab56c23409ea4c", func := "wardship/wardshiplaw04.JournalPlays", spec := "journalPlays", unfollowed := true, recurses := true, apart := false }
def JournalPlaysSaid : Prop := journalPlaysRow.holds Try.pinned (OpenSpec.ofChange journalPlaysSpec)

/-- ITS FALSE NEIGHBOUR: 'it returns false'. Refute it at one input. -/
def journalPlaysWrong : ChangeSpec := { name := "journalPlays", fn := fun _ => fun
  | [d1, d2] => { results := [.lit (.bool false)], args := [d1, d2] }
  | _ => none }
def JournalPlaysWrongFalsely : Prop := journalPlaysRow.holds Try.pinned (OpenSpec.ofChange journalPlaysWrong)

/-- 'wardshiplaw05.KeepLasts': WHATEVER THE INPUT: true; the input reads as it did. -/
def keepLastsSpec : ChangeSpec := { name := "keepLasts", fn := fun _ => fun
  | [d1, d2] => { results := [.lit (.bool true)], args := [d1, d2] }
  | _ => none }
def keepLastsRow : OpenClaim := { program := "yteggldplmbegfaa", sum := "8e9956bd33d21e5ff5d48180e7e3fa953fb02e10be6a65f8e9ab56c23409ea4c", func := "wardship/wardshiplaw05.KeepLasts", spec := "keepLasts", inPlace := ["maps.clone"], unfollowed := true, recurses := true, apart := false }
def KeepLastsSaid : Prop := keepLastsRow.holds Try.pinned (OpenSpec.ofChange keepLastsSpec)

/-- ITS FALSE NEIGHBOUR: 'it returns false'. Refute it at one input. -/
def keepLastsWrong : ChangeSpec := { name := "keepLasts", fn := fun _ => fun
  | [d1, d2] => { results := [.lit (.bool false)], args := [d1, d2] }
  | _ => none }
def KeepLastsWrongFalsely : Prop := keepLastsRow.holds Try.pinned (OpenSpec.ofChange keepLastsWrong)

/-- 'wardshiplaw05.KeepReads': WHATEVER THE INPUT: true; the input reads as it did. -/
def keepReadsSpec : ChangeSpec := { name := "keepReads", fn := fun _ => fun
  | [d] => { results := [.lit (.bool true)], args := [d] }
  | _ => none }
def keepReadsRow : OpenClaim := { program := "yteggldplmbegfaa", sum := "8e9956bd33d21e5ff5d48180e7e3fa953fb02e10be6a65f8e9ab56c23409ea4c", func := "wardship/wardshiplaw05.KeepReads", spec := "keepReads", inPlace := ["maps.clone"], unfollowed := true, recurses := true, apart := false }
def KeepReadsSaid : Prop := keepReadsRow.holds Try.pinned (OpenSpec.ofChange keepReadsSpec)

/-- ITS FALSE NEIGHBOUR: 'it returns false'. Refute it at one input. -/
def keepReadsWrong : ChangeSpec := { name := "keepReads", fn := fun _ => fun
  | [d] => { results := [.lit (.bool false)], args := [d] }
  | _ => none }
def KeepReadsWrongFalsely : Prop := keepReadsRow.holds Try.pinned (OpenSpec.ofChange keepReadsWrong)

/-- 'wardshiplaw05.KeepLast': WHATEVER THE INPUT: true; the input reads as it did. -/
def keepLastSpec : ChangeSpec := { name := "keepLast", fn := fun _ => fun
  | [d1, d2] => { results := [.lit (.bool true)], args := [d1, d2] }
  | _ => none }
def keepLastRow : OpenClaim := { program := "yteggldplmbegfaa", sum := "8e9956bd33d21e5ff5d48180e7e3fa953fb02e10be6a65f8e9ab56c23409ea4c", func := "wardship/wardshiplaw05.KeepLast", spec := "keepLast", inPlace := ["maps.clone"], unfollowed := true, recurses := true, apart := false }
def KeepLastSaid : Prop := keepLastRow.holds Try.pinned (OpenSpec.ofChange keepLastSpec)

/-- ITS FALSE NEIGHBOUR: 'it returns false'. Refute it at one input. -/
def keepLastWrong : ChangeSpec := { name := "keepLast", fn := fun _ => fun
  | [d1, d2] => { results := [.lit (.bool false)], args := [d1, d2] }
  | _ => none }
def KeepLastWrongFalsely : Prop := keepLastRow.holds Try.pinned (OpenSpec.ofChange keepLastWrong)

/-- 'wardshiplaw05.KeepAtomic': WHATEVER THE INPUT: true; the input reads as it did. -/
def keepAtomicSpec : ChangeSpec := { name := "keepAtomic", fn := fun _ => fun
  | [d1, d2, d3] => { results := [.lit (.bool true)], args := [d1, d2, d3] }
  | _ => none }
def keepAtomicRow : OpenClaim := { program := "yteggldplmbegfaa", sum := "8e9956bd33d21e5ff5d48180e7e3fa953fb02e10be6a65f8e9ab56c23409ea4c", func := "wardship/wardshiplaw05.KeepAtomic", spec := "keepAtomic", inPlace := ["maps.clone"], unfollowed := true, recurses := true, apart := false }
def KeepAtomicSaid : Prop := keepAtomicRow.holds Try.pinned (OpenSpec.ofChange keepAtomicSpec)

/-- ITS FALSE NEIGHBOUR: 'it returns false'. Refute it at one input. -/
def keepAtomicWrong : ChangeSpec := { name := "keepAtomic", fn := fun _ => fun
  | [d1, d2, d3] => { results := [.lit (.bool false)], args := [d1, d2, d3] }
  | _ => none }
def KeepAtomicWrongFalsely : Prop := keepAtomicRow.holds Try.pinned (OpenSpec.ofChange keepAtomicWrong)

/- THE SECOND FORM. 'bulk': how many values and letters a reading holds, each counted each time it is reached (what is shared counts as often as it is met; a slice's spare places count too). A statement '..UptoSaid' is the law's where the arguments, and the package variables that the reading takes, are together of bulk at most 1048576: NARROWER than '..Said'. Prove '..Said' where nothing that the law and all that it calls make is longer than what came in: it says more and counts as full. Else prove '..UptoSaid'. A law counts once. -/
mutual
def uptoBulk {H : Type} : DataW H → Nat
  | .lit (.string bytes) => bytes.length + 1
  | .lit _ => 1
  | .nil => 1
  | .ptr d => uptoBulk d + 1
  | .slice elems spare => uptoBulkAll elems + uptoBulkAll spare + 1
  | .agg parts => uptoBulkAll parts + 1
  | .iface _ d => uptoBulk d + 1
  | .map entries => uptoBulkEntries entries + 1
  | .held _ => 1
def uptoBulkAll {H : Type} : List (DataW H) → Nat
  | [] => 0
  | d :: r => uptoBulk d + uptoBulkAll r
def uptoBulkEntries {H : Type} : List (Lit × DataW H) → Nat
  | [] => 0
  | x :: r => uptoBulkEntry x + uptoBulkEntries r
def uptoBulkEntry {H : Type} : Lit × DataW H → Nat
  | (.string bytes, d) => bytes.length + uptoBulk d + 1
  | (_, d) => uptoBulk d + 1
 end
def uptoSmall : (H : Type) → List (DataW H) → Bool := fun _ ds => decide (uptoBulkAll ds ≤ 1048576)
def OpenSpec.upto (s : _root_.Go.ChangeSpec) : _root_.Go.OpenSpec := { _root_.Go.OpenSpec.ofChange s with cond := some uptoSmall }

/-- 'wardshiplaw03.DeviceSure', WHERE WHAT IT READS IS OF BULK AT MOST 1048576: true; the input reads as it did. -/
def deviceSureUptoRow : OpenClaim := { program := "yteggldplmbegfaa", sum := "8e9956bd33d21e5ff5d48180e7e3fa953fb02e10be6a65f8e9ab56c23409ea4c", func := "wardship/wardshiplaw03.DeviceSure", spec := "deviceSure", apart := false, narrowed := true }
def DeviceSureUptoSaid : Prop := deviceSureUptoRow.holds Try.pinned (OpenSpec.upto deviceSureSpec)

/-- 'wardshiplaw04.JournalArgs', WHERE WHAT IT READS IS OF BULK AT MOST 1048576: true; the input reads as it did. -/
def journalArgsUptoRow : OpenClaim := { program := "yteggldplmbegfaa", sum := "8e9956bd33d21e5ff5d48180e7e3fa953fb02e10be6a65f8e9ab56c23409ea4c", func := "wardship/wardshiplaw04.JournalArgs", spec := "journalArgs", unfollowed := true, recurses := true, apart := false, narrowed := true }
def JournalArgsUptoSaid : Prop := journalArgsUptoRow.holds Try.pinned (OpenSpec.upto journalArgsSpec)

/-- 'wardshiplaw04.JournalFinds', WHERE WHAT IT READS IS OF BULK AT MOST 1048576: true; the input reads as it did. -/
def journalFindsUptoRow : OpenClaim := { program := "yteggldplmbegfaa", sum := "8e9956bd33d21e5ff5d48180e7e3fa953fb02e10be6a65f8e9ab56c23409ea4c", func := "wardship/wardshiplaw04.JournalFinds", spec := "journalFinds", unfollowed := true, recurses := true, apart := false, narrowed := true }
def JournalFindsUptoSaid : Prop := journalFindsUptoRow.holds Try.pinned (OpenSpec.upto journalFindsSpec)

/-- 'wardshiplaw04.JournalRoom', WHERE WHAT IT READS IS OF BULK AT MOST 1048576: true; the input reads as it did. -/
def journalRoomUptoRow : OpenClaim := { program := "yteggldplmbegfaa", sum := "8e9956bd33d21e5ff5d48180e7e3fa953fb02e10be6a65f8e9ab56c23409ea4c", func := "wardship/wardshiplaw04.JournalRoom", spec := "journalRoom", unfollowed := true, recurses := true, apart := false, narrowed := true }
def JournalRoomUptoSaid : Prop := journalRoomUptoRow.holds Try.pinned (OpenSpec.upto journalRoomSpec)

/-- 'wardshiplaw04.JournalAtomic', WHERE WHAT IT READS IS OF BULK AT MOST 1048576: true; the input reads as it did. -/
def journalAtomicUptoRow : OpenClaim := { program := "yteggldplmbegfaa", sum := "8e9956bd33d21e5ff5d48180e7e3fa953fb02e10be6a65f8e9ab56c23409ea4c", func := "wardship/wardshiplaw04.JournalAtomic", spec := "journalAtomic", unfollowed := true, recurses := true, apart := false, narrowed := true }
def JournalAtomicUptoSaid : Prop := journalAtomicUptoRow.holds Try.pinned (OpenSpec.upto journalAtomicSpec)

/-- 'wardshiplaw04.JournalPlays', WHERE WHAT IT READS IS OF BULK AT MOST 1048576: true; the input reads as it did. -/
def journalPlaysUptoRow : OpenClaim := { program := "yteggldplmbegfaa", sum := "8e9956bd33d21e5ff5d48180e7e3fa953fb02e10be6a65f8e9ab56c23409ea4c", func := "wardship/wardshiplaw04.JournalPlays", spec := "journalPlays", unfollowed := true, recurses := true, apart := false, narrowed := true }
def JournalPlaysUptoSaid : Prop := journalPlaysUptoRow.holds Try.pinned (OpenSpec.upto journalPlaysSpec)

/-- 'wardshiplaw05.KeepLasts', WHERE WHAT IT READS IS OF BULK AT MOST 1048576: true; the input reads as it did. -/
def keepLastsUptoRow : OpenClaim := { program := "yteggldplmbegfaa", sum := "8e9956bd33d21e5ff5d48180e7e3fa953fb02e10be6a65f8e9ab56c23409ea4c", func := "wardship/wardshiplaw05.KeepLasts", spec := "keepLasts", inPlace := ["maps.clone"], unfollowed := true, recurses := true, apart := false, narrowed := true }
def KeepLastsUptoSaid : Prop := keepLastsUptoRow.holds Try.pinned (OpenSpec.upto keepLastsSpec)

/-- 'wardshiplaw05.KeepReads', WHERE WHAT IT READS IS OF BULK AT MOST 1048576: true; the input reads as it did. -/
def keepReadsUptoRow : OpenClaim := { program := "yteggldplmbegfaa", sum := "8e9956bd33d21e5ff5d48180e7e3fa953fb02e10be6a65f8e9ab56c23409ea4c", func := "wardship/wardshiplaw05.KeepReads", spec := "keepReads", inPlace := ["maps.clone"], unfollowed := true, recurses := true, apart := false, narrowed := true }
def KeepReadsUptoSaid : Prop := keepReadsUptoRow.holds Try.pinned (OpenSpec.upto keepReadsSpec)

/-- 'wardshiplaw05.KeepLast', WHERE WHAT IT READS IS OF BULK AT MOST 1048576: true; the input reads as it did. -/
def keepLastUptoRow : OpenClaim := { program := "yteggldplmbegfaa", sum := "8e9956bd33d21e5ff5d48180e7e3fa953fb02e10be6a65f8e9ab56c23409ea4c", func := "wardship/wardshiplaw05.KeepLast", spec := "keepLast", inPlace := ["maps.clone"], unfollowed := true, recurses := true, apart := false, narrowed := true }
def KeepLastUptoSaid : Prop := keepLastUptoRow.holds Try.pinned (OpenSpec.upto keepLastSpec)

/-- 'wardshiplaw05.KeepAtomic', WHERE WHAT IT READS IS OF BULK AT MOST 1048576: true; the input reads as it did. -/
def keepAtomicUptoRow : OpenClaim := { program := "yteggldplmbegfaa", sum := "8e9956bd33d21e5ff5d48180e7e3fa953fb02e10be6a65f8e9ab56c23409ea4c", func := "wardship/wardshiplaw05.KeepAtomic", spec := "keepAtomic", inPlace := ["maps.clone"], unfollowed := true, recurses := true, apart := false, narrowed := true }
def KeepAtomicUptoSaid : Prop := keepAtomicUptoRow.holds Try.pinned (OpenSpec.upto keepAtomicSpec)

end Rows
end Go.Proofs.Yteggldplmbegfaa
