/-
  No cell of these rows narrows 'for every input' (looked for: loops, veiled, ifaces, maps, wideKeys, modest, calm, conditions, laid).
  DERIVED. THE GIVEN ROWS OF THIS SEAT. 5 by the template 'for every input the law returns true; each argument reads behind the call as it read before'; 0 by the template 'total and deterministic' (their statements: YtjbljdjokgamdaaTotals.lean).
  GIVEN WITH THE SEED: the statements are not yours to turn. If you find one false, say at which input.
  Laid BY PROGRAM, IN A SANDBOX (cutbox-rows.mjs): the forced cells as the released guide's own fill.sh prints them over the translation 2e6e9e89f60e1726… (all of the seat's roots in one cut). By AI agents, Wed Nov 11 2026. No macro, syntax, notation, axiom, sorry.
-/
import Derived.Test.YtjbljdjokgamdaaChecked
import GoSem.Claim
import GoSem.ClaimJoined
import GoSem.ClaimMapViews
import Derived.JoinedTies
import Derived.KernelRfl
namespace Go.Proofs.Ytjbljdjokgamdaa
/- THE CELL 'sum', in the pinned program and in every row, IS THE sha256 OF THE DUMP (.gsa) THAT YtjbljdjokgamdaaProg.lean LOADS. Nothing in Lean hashes anything: it is a label: what it is worth is what the hold of that sum in a sandbox is worth. -/
noncomputable def Try.pinned : Pinned := { name := "ytjbljdjokgamdaa", sum := "2e6e9e89f60e1726fcb0c888cdd6531a4e042851c031ac38d17a4b1a9a8f0fd9", checked := Try.checked }
namespace Rows
def none {H : Type} : Left H := { results := [], args := [] }

/-- 'punnetlaw20.MeterSums': WHATEVER THE INPUT: true; the input reads as it did. -/
def meterSumsSpec : ChangeSpec := { name := "meterSums", fn := fun _ => fun
  | [d1, d2] => { results := [.lit (.bool true)], args := [d1, d2] }
  | _ => none }
def meterSumsRow : OpenClaim := { program := "ytjbljdjokgamdaa", sum := "2e6e9e89f60e1726fcb0c888cdd6531a4e042851c031ac38d17a4b1a9a8f0fd9", func := "punnet/punnetlaw20.MeterSums", spec := "meterSums", inPlace := ["sync/atomic.AddInt64", "sync/atomic.LoadInt64", "sync/atomic.CompareAndSwapInt64", "sync/atomic.SwapInt64"], unfollowed := true, recurses := true, apart := false }
def MeterSumsSaid : Prop := meterSumsRow.holds Try.pinned (OpenSpec.ofChange meterSumsSpec)

/-- ITS FALSE NEIGHBOUR: 'it returns false'. Refute it at one input. -/
def meterSumsWrong : ChangeSpec := { name := "meterSums", fn := fun _ => fun
  | [d1, d2] => { results := [.lit (.bool false)], args := [d1, d2] }
  | _ => none }
def MeterSumsWrongFalsely : Prop := meterSumsRow.holds Try.pinned (OpenSpec.ofChange meterSumsWrong)

/-- 'punnetlaw20.MeterNew': WHATEVER THE INPUT: true; the input reads as it did. -/
def meterNewSpec : ChangeSpec := { name := "meterNew", fn := fun _ => fun
  | [d1, d2] => { results := [.lit (.bool true)], args := [d1, d2] }
  | _ => none }
def meterNewRow : OpenClaim := { program := "ytjbljdjokgamdaa", sum := "2e6e9e89f60e1726fcb0c888cdd6531a4e042851c031ac38d17a4b1a9a8f0fd9", func := "punnet/punnetlaw20.MeterNew", spec := "meterNew", inPlace := ["sync/atomic.AddInt64", "sync/atomic.LoadInt64", "sync/atomic.CompareAndSwapInt64", "sync/atomic.SwapInt64"], unfollowed := true, recurses := true, apart := false }
def MeterNewSaid : Prop := meterNewRow.holds Try.pinned (OpenSpec.ofChange meterNewSpec)

/-- ITS FALSE NEIGHBOUR: 'it returns false'. Refute it at one input. -/
def meterNewWrong : ChangeSpec := { name := "meterNew", fn := fun _ => fun
  | [d1, d2] => { results := [.lit (.bool false)], args := [d1, d2] }
  | _ => none }
def MeterNewWrongFalsely : Prop := meterNewRow.holds Try.pinned (OpenSpec.ofChange meterNewWrong)

/-- 'punnetlaw20.MeterPlays': WHATEVER THE INPUT: true; the input reads as it did. -/
def meterPlaysSpec : ChangeSpec := { name := "meterPlays", fn := fun _ => fun
  | [d1, d2, d3] => { results := [.lit (.bool true)], args := [d1, d2, d3] }
  | _ => none }
def meterPlaysRow : OpenClaim := { program := "ytjbljdjokgamdaa", sum := "2e6e9e89f60e1726fcb0c888cdd6531a4e042851c031ac38d17a4b1a9a8f0fd9", func := "punnet/punnetlaw20.MeterPlays", spec := "meterPlays", inPlace := ["sync/atomic.AddInt64", "sync/atomic.LoadInt64", "sync/atomic.CompareAndSwapInt64", "sync/atomic.SwapInt64"], unfollowed := true, recurses := true, apart := false }
def MeterPlaysSaid : Prop := meterPlaysRow.holds Try.pinned (OpenSpec.ofChange meterPlaysSpec)

/-- ITS FALSE NEIGHBOUR: 'it returns false'. Refute it at one input. -/
def meterPlaysWrong : ChangeSpec := { name := "meterPlays", fn := fun _ => fun
  | [d1, d2, d3] => { results := [.lit (.bool false)], args := [d1, d2, d3] }
  | _ => none }
def MeterPlaysWrongFalsely : Prop := meterPlaysRow.holds Try.pinned (OpenSpec.ofChange meterPlaysWrong)

/-- 'punnetlaw20.MeterPeaks': WHATEVER THE INPUT: true; the input reads as it did. -/
def meterPeaksSpec : ChangeSpec := { name := "meterPeaks", fn := fun _ => fun
  | [d] => { results := [.lit (.bool true)], args := [d] }
  | _ => none }
def meterPeaksRow : OpenClaim := { program := "ytjbljdjokgamdaa", sum := "2e6e9e89f60e1726fcb0c888cdd6531a4e042851c031ac38d17a4b1a9a8f0fd9", func := "punnet/punnetlaw20.MeterPeaks", spec := "meterPeaks", inPlace := ["sync/atomic.AddInt64", "sync/atomic.LoadInt64", "sync/atomic.CompareAndSwapInt64", "sync/atomic.SwapInt64"], unfollowed := true, recurses := true, apart := false }
def MeterPeaksSaid : Prop := meterPeaksRow.holds Try.pinned (OpenSpec.ofChange meterPeaksSpec)

/-- ITS FALSE NEIGHBOUR: 'it returns false'. Refute it at one input. -/
def meterPeaksWrong : ChangeSpec := { name := "meterPeaks", fn := fun _ => fun
  | [d] => { results := [.lit (.bool false)], args := [d] }
  | _ => none }
def MeterPeaksWrongFalsely : Prop := meterPeaksRow.holds Try.pinned (OpenSpec.ofChange meterPeaksWrong)

/-- 'punnetlaw20.MeterResets': WHATEVER THE INPUT: true; the input reads as it did. -/
def meterResetsSpec : ChangeSpec := { name := "meterResets", fn := fun _ => fun
  | [d] => { results := [.lit (.bool true)], args := [d] }
  | _ => none }
def meterResetsRow : OpenClaim := { program := "ytjbljdjokgamdaa", sum := "2e6e9e89f60e1726fcb0c888cdd6531a4e042851c031ac38d17a4b1a9a8f0fd9", func := "punnet/punnetlaw20.MeterResets", spec := "meterResets", inPlace := ["sync/atomic.AddInt64", "sync/atomic.LoadInt64", "sync/atomic.CompareAndSwapInt64", "sync/atomic.SwapInt64"], unfollowed := true, recurses := true, apart := false }
def MeterResetsSaid : Prop := meterResetsRow.holds Try.pinned (OpenSpec.ofChange meterResetsSpec)

/-- ITS FALSE NEIGHBOUR: 'it returns false'. Refute it at one input. -/
def meterResetsWrong : ChangeSpec := { name := "meterResets", fn := fun _ => fun
  | [d] => { results := [.lit (.bool false)], args := [d] }
  | _ => none }
def MeterResetsWrongFalsely : Prop := meterResetsRow.holds Try.pinned (OpenSpec.ofChange meterResetsWrong)

/- THE SECOND FORM. 'bulk': how many values and letters a reading holds, each counted each time it is reached (what is shared counts as often as it is met; a slice's spare places count too). A statement '..UptoSaid' is the law's where the arguments, and the package variables that the reading takes, are together of bulk at most 1048576: NARROWER than '..Said'. Prove '..Said' where nothing that the law and all that it calls make is longer than what came in: it says more and counts as full. Else prove '..UptoSaid'. A law counts once. -/
mutual
def uptoBulk {H : Type} : DataW H → Nat
  | .lit (.string bytes) => bytes.length + 1
  | .lit _ => 1
  | .nil => 1
  | .ptr d => uptoBulk d + 1
  | .slice elems spare => uptoBulkAll elems + uptoBulkAll spare + 1
  | .agg parts => uptoBulkAll parts + 1
  | .iface _ d => uptoBulk d + 1
  | .map entries => uptoBulkEntries entries + 1
  | .held _ => 1
def uptoBulkAll {H : Type} : List (DataW H) → Nat
  | [] => 0
  | d :: r => uptoBulk d + uptoBulkAll r
def uptoBulkEntries {H : Type} : List (Lit × DataW H) → Nat
  | [] => 0
  | x :: r => uptoBulkEntry x + uptoBulkEntries r
def uptoBulkEntry {H : Type} : Lit × DataW H → Nat
  | (.string bytes, d) => bytes.length + uptoBulk d + 1
  | (_, d) => uptoBulk d + 1
 end
def uptoSmall : (H : Type) → List (DataW H) → Bool := fun _ ds => decide (uptoBulkAll ds ≤ 1048576)
def OpenSpec.upto (s : _root_.Go.ChangeSpec) : _root_.Go.OpenSpec := { _root_.Go.OpenSpec.ofChange s with cond := some uptoSmall }

/-- 'punnetlaw20.MeterSums', WHERE WHAT IT READS IS OF BULK AT MOST 1048576: true; the input reads as it did. -/
def meterSumsUptoRow : OpenClaim := { program := "ytjbljdjokgamdaa", sum := "2e6e9e89f60e1726fcb0c888cdd6531a4e042851c031ac38d17a4b1a9a8f0fd9", func := "punnet/punnetlaw20.MeterSums", spec := "meterSums", inPlace := ["sync/atomic.AddInt64", "sync/atomic.LoadInt64", "sync/atomic.CompareAndSwapInt64", "sync/atomic.SwapInt64"], unfollowed := true, recurses := true, apart := false, narrowed := true }
def MeterSumsUptoSaid : Prop := meterSumsUptoRow.holds Try.pinned (OpenSpec.upto meterSumsSpec)

/-- 'punnetlaw20.MeterNew', WHERE WHAT IT READS IS OF BULK AT MOST 1048576: true; the input reads as it did. -/
def meterNewUptoRow : OpenClaim := { program := "ytjbljdjokgamdaa", sum := "2e6e9e89f60e1726fcb0c888cdd6531a4e042851c031ac38d17a4b1a9a8f0fd9", func := "punnet/punnetlaw20.MeterNew", spec := "meterNew", inPlace := ["sync/atomic.AddInt64", "sync/atomic.LoadInt64", "sync/atomic.CompareAndSwapInt64", "sync/atomic.SwapInt64"], unfollowed := true, recurses := true, apart := false, narrowed := true }
def MeterNewUptoSaid : Prop := meterNewUptoRow.holds Try.pinned (OpenSpec.upto meterNewSpec)

/-- 'punnetlaw20.MeterPlays', WHERE WHAT IT READS IS OF BULK AT MOST 1048576: true; the input reads as it did. -/
def meterPlaysUptoRow : OpenClaim := { program := "ytjbljdjokgamdaa", sum := "2e6e9e89f60e1726fcb0c888cdd6531a4e042851c031ac38d17a4b1a9a8f0fd9", func := "punnet/punnetlaw20.MeterPlays", spec := "meterPlays", inPlace := ["sync/atomic.AddInt64", "sync/atomic.LoadInt64", "sync/atomic.CompareAndSwapInt64", "sync/atomic.SwapInt64"], unfollowed := true, recurses := true, apart := false, narrowed := true }
def MeterPlaysUptoSaid : Prop := meterPlaysUptoRow.holds Try.pinned (OpenSpec.upto meterPlaysSpec)

/-- 'punnetlaw20.MeterPeaks', WHERE WHAT IT READS IS OF BULK AT MOST 1048576: true; the input reads as it did. -/
def meterPeaksUptoRow : OpenClaim := { program := "ytjbljdjokgamdaa", sum := "2e6e9e89f60e1726fcb0c888cdd6531a4e042851c031ac38d17a4b1a9a8f0fd9", func := "punnet/punnetlaw20.MeterPeaks", spec := "meterPeaks", inPlace := ["sync/atomic.AddInt64", "sync/atomic.LoadInt64", "sync/atomic.CompareAndSwapInt64", "sync/atomic.SwapInt64"], unfollowed := true, recurses := true, apart := false, narrowed := true }
def MeterPeaksUptoSaid : Prop := meterPeaksUptoRow.holds Try.pinned (OpenSpec.upto meterPeaksSpec)

/-- 'punnetlaw20.MeterResets', WHERE WHAT IT READS IS OF BULK AT MOST 1048576: true; the input reads as it did. -/
def meterResetsUptoRow : OpenClaim := { program := "ytjbljdjokgamdaa", sum := "2e6e9e89f60e1726fcb0c888cdd6531a4e042851c031ac38d17a4b1a9a8f0fd9", func := "punnet/punnetlaw20.MeterResets", spec := "meterResets", inPlace := ["sync/atomic.AddInt64", "sync/atomic.LoadInt64", "sync/atomic.CompareAndSwapInt64", "sync/atomic.SwapInt64"], unfollowed := true, recurses := true, apart := false, narrowed := true }
def MeterResetsUptoSaid : Prop := meterResetsUptoRow.holds Try.pinned (OpenSpec.upto meterResetsSpec)

end Rows
end Go.Proofs.Ytjbljdjokgamdaa
