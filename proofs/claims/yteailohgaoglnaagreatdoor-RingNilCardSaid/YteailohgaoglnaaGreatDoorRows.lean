/-
  NARROWER THAN 'FOR EVERY INPUT', by the rows' own cells (each row's printed sentence says how): RingNil: laid · RingBytes: laid · DiffAbove: laid · ClientNil: laid.
  DERIVED. THE GIVEN ROWS OF THIS SEAT. 4 by the template 'for every input the law returns true; each argument reads behind the call as it read before'; 0 by the template 'total and deterministic' (their statements: YteailohgaoglnaaGreatDoorTotals.lean).
  GIVEN WITH THE SEED: the statements are not yours to turn. If you find one false, say at which input.
  Laid BY PROGRAM, IN A SANDBOX (cutbox-rows.mjs): the forced cells as the released guide's own fill.sh prints them over the translation b4bb7903037d7113… (all of the seat's roots in one cut). By AI agents, Wed Nov 11 2026. No macro, syntax, notation, axiom, sorry.
-/
import Derived.Test.YteailohgaoglnaaGreatDoorChecked
import GoSem.Claim
import GoSem.ClaimJoined
import GoSem.ClaimMapViews
import Derived.JoinedTies
import Derived.KernelRfl
namespace Go.Proofs.YteailohgaoglnaaGreatDoor
/- THE CELL 'sum', in the pinned program and in every row, IS THE sha256 OF THE DUMP (.gsa) THAT YteailohgaoglnaaGreatDoorProg.lean LOADS. Nothing in Lean hashes anything: it is a label: what it is worth is what the hold of that sum in a sandbox is worth. -/
noncomputable def Tryz.pinned : Pinned := { name := "yteailohgaoglnaagreatdoor", sum := "b4bb7903037d711321bc7146fccaf3104d9fc0c919f14d61a9cd21ebd38ea247", checked := Tryz.checked }
namespace Rows
def none {H : Type} : Left H := { results := [], args := [] }

/- WHAT THE LISTED PACKAGE-LEVEL VARIABLES READ AS WHEN THE CALL BEGINS. Each datum BY PROGRAM (the guide's laid-datum.mjs) off the statement by which the dump's own 'gosem.cut.vars' lays the variable. In a bare row this is a premise. The card (YteailohgaoglnaaGreatDoorCards.lean) ties it to the program's text. -/
def laid_spyglass_utf_none {H : Type} : DataW H := .agg [.agg [.lit (.int .i32 768), .lit (.int .i32 879)], .agg [.lit (.int .i32 8203), .lit (.int .i32 8207)], .agg [.lit (.int .i32 65024), .lit (.int .i32 65039)]]
def laid_spyglass_utf_wide {H : Type} : DataW H := .agg [.agg [.lit (.int .i32 4352), .lit (.int .i32 4447)], .agg [.lit (.int .i32 11904), .lit (.int .i32 12350)], .agg [.lit (.int .i32 12353), .lit (.int .i32 42191)], .agg [.lit (.int .i32 44032), .lit (.int .i32 55203)], .agg [.lit (.int .i32 63744), .lit (.int .i32 64255)], .agg [.lit (.int .i32 65072), .lit (.int .i32 65135)], .agg [.lit (.int .i32 65280), .lit (.int .i32 65376)], .agg [.lit (.int .i32 65504), .lit (.int .i32 65510)], .agg [.lit (.int .i32 127744), .lit (.int .i32 128591)], .agg [.lit (.int .i32 131072), .lit (.int .i32 262141)]]
def laid_spyglass_color_first {H : Type} : DataW H := .agg [.agg [.lit (.int .u8 0), .lit (.int .u8 0), .lit (.int .u8 0)], .agg [.lit (.int .u8 205), .lit (.int .u8 0), .lit (.int .u8 0)], .agg [.lit (.int .u8 0), .lit (.int .u8 205), .lit (.int .u8 0)], .agg [.lit (.int .u8 205), .lit (.int .u8 205), .lit (.int .u8 0)], .agg [.lit (.int .u8 0), .lit (.int .u8 0), .lit (.int .u8 238)], .agg [.lit (.int .u8 205), .lit (.int .u8 0), .lit (.int .u8 205)], .agg [.lit (.int .u8 0), .lit (.int .u8 205), .lit (.int .u8 205)], .agg [.lit (.int .u8 229), .lit (.int .u8 229), .lit (.int .u8 229)], .agg [.lit (.int .u8 127), .lit (.int .u8 127), .lit (.int .u8 127)], .agg [.lit (.int .u8 255), .lit (.int .u8 0), .lit (.int .u8 0)], .agg [.lit (.int .u8 0), .lit (.int .u8 255), .lit (.int .u8 0)], .agg [.lit (.int .u8 255), .lit (.int .u8 255), .lit (.int .u8 0)], .agg [.lit (.int .u8 92), .lit (.int .u8 92), .lit (.int .u8 255)], .agg [.lit (.int .u8 255), .lit (.int .u8 0), .lit (.int .u8 255)], .agg [.lit (.int .u8 0), .lit (.int .u8 255), .lit (.int .u8 255)], .agg [.lit (.int .u8 255), .lit (.int .u8 255), .lit (.int .u8 255)]]
def laid_spyglass_color_levels {H : Type} : DataW H := .agg [.lit (.int .i64 0), .lit (.int .i64 95), .lit (.int .i64 135), .lit (.int .i64 175), .lit (.int .i64 215), .lit (.int .i64 255)]
def laid_spyglass_sha_roots {H : Type} : DataW H := .agg [.lit (.int .u32 1116352408), .lit (.int .u32 1899447441), .lit (.int .u32 3049323471), .lit (.int .u32 3921009573), .lit (.int .u32 961987163), .lit (.int .u32 1508970993), .lit (.int .u32 2453635748), .lit (.int .u32 2870763221), .lit (.int .u32 3624381080), .lit (.int .u32 310598401), .lit (.int .u32 607225278), .lit (.int .u32 1426881987), .lit (.int .u32 1925078388), .lit (.int .u32 2162078206), .lit (.int .u32 2614888103), .lit (.int .u32 3248222580), .lit (.int .u32 3835390401), .lit (.int .u32 4022224774), .lit (.int .u32 264347078), .lit (.int .u32 604807628), .lit (.int .u32 770255983), .lit (.int .u32 1249150122), .lit (.int .u32 1555081692), .lit (.int .u32 1996064986), .lit (.int .u32 2554220882), .lit (.int .u32 2821834349), .lit (.int .u32 2952996808), .lit (.int .u32 3210313671), .lit (.int .u32 3336571891), .lit (.int .u32 3584528711), .lit (.int .u32 113926993), .lit (.int .u32 338241895), .lit (.int .u32 666307205), .lit (.int .u32 773529912), .lit (.int .u32 1294757372), .lit (.int .u32 1396182291), .lit (.int .u32 1695183700), .lit (.int .u32 1986661051), .lit (.int .u32 2177026350), .lit (.int .u32 2456956037), .lit (.int .u32 2730485921), .lit (.int .u32 2820302411), .lit (.int .u32 3259730800), .lit (.int .u32 3345764771), .lit (.int .u32 3516065817), .lit (.int .u32 3600352804), .lit (.int .u32 4094571909), .lit (.int .u32 275423344), .lit (.int .u32 430227734), .lit (.int .u32 506948616), .lit (.int .u32 659060556), .lit (.int .u32 883997877), .lit (.int .u32 958139571), .lit (.int .u32 1322822218), .lit (.int .u32 1537002063), .lit (.int .u32 1747873779), .lit (.int .u32 1955562222), .lit (.int .u32 2024104815), .lit (.int .u32 2227730452), .lit (.int .u32 2361852424), .lit (.int .u32 2428436474), .lit (.int .u32 2756734187), .lit (.int .u32 3204031479), .lit (.int .u32 3329325298)]

/-- 'spyglasslaw25.RingNil': WHATEVER THE INPUT: true; the input reads as it did. -/
def ringNilSpec : ChangeSpec := { name := "ringNil", fn := fun _ => fun
  | [d1, d2] => { results := [.lit (.bool true)], args := [d1, d2] }
  | _ => none }
def ringNilRow : OpenClaim := { program := "yteailohgaoglnaagreatdoor", sum := "b4bb7903037d711321bc7146fccaf3104d9fc0c919f14d61a9cd21ebd38ea247", func := "spyglass/spyglasslaw25.RingNil", spec := "ringNil", unfollowed := true, recurses := true, named := ["spyglass/utf.none", "spyglass/utf.wide"], apart := false, laid := [("spyglass/utf.none", laid_spyglass_utf_none), ("spyglass/utf.wide", laid_spyglass_utf_wide)] }
def RingNilSaid : Prop := ringNilRow.holds Tryz.pinned (OpenSpec.ofChange ringNilSpec)

/-- ITS FALSE NEIGHBOUR: 'it returns false'. Refute it at one input. -/
def ringNilWrong : ChangeSpec := { name := "ringNil", fn := fun _ => fun
  | [d1, d2] => { results := [.lit (.bool false)], args := [d1, d2] }
  | _ => none }
def RingNilWrongFalsely : Prop := ringNilRow.holds Tryz.pinned (OpenSpec.ofChange ringNilWrong)

/-- 'spyglasslaw25.RingBytes': WHATEVER THE INPUT: true; the input reads as it did. -/
def ringBytesSpec : ChangeSpec := { name := "ringBytes", fn := fun _ => fun
  | [d1, d2, d3, d4, d5] => { results := [.lit (.bool true)], args := [d1, d2, d3, d4, d5] }
  | _ => none }
def ringBytesRow : OpenClaim := { program := "yteailohgaoglnaagreatdoor", sum := "b4bb7903037d711321bc7146fccaf3104d9fc0c919f14d61a9cd21ebd38ea247", func := "spyglass/spyglasslaw25.RingBytes", spec := "ringBytes", unfollowed := true, recurses := true, named := ["spyglass/utf.none", "spyglass/utf.wide"], apart := false, laid := [("spyglass/utf.none", laid_spyglass_utf_none), ("spyglass/utf.wide", laid_spyglass_utf_wide)] }
def RingBytesSaid : Prop := ringBytesRow.holds Tryz.pinned (OpenSpec.ofChange ringBytesSpec)

/-- ITS FALSE NEIGHBOUR: 'it returns false'. Refute it at one input. -/
def ringBytesWrong : ChangeSpec := { name := "ringBytes", fn := fun _ => fun
  | [d1, d2, d3, d4, d5] => { results := [.lit (.bool false)], args := [d1, d2, d3, d4, d5] }
  | _ => none }
def RingBytesWrongFalsely : Prop := ringBytesRow.holds Tryz.pinned (OpenSpec.ofChange ringBytesWrong)

/-- 'spyglasslaw19.DiffAbove': WHATEVER THE INPUT: true; the input reads as it did. -/
def diffAboveSpec : ChangeSpec := { name := "diffAbove", fn := fun _ => fun
  | [d1, d2, d3] => { results := [.lit (.bool true)], args := [d1, d2, d3] }
  | _ => none }
def diffAboveRow : OpenClaim := { program := "yteailohgaoglnaagreatdoor", sum := "b4bb7903037d711321bc7146fccaf3104d9fc0c919f14d61a9cd21ebd38ea247", func := "spyglass/spyglasslaw19.DiffAbove", spec := "diffAbove", unfollowed := true, recurses := true, named := ["spyglass/utf.none", "spyglass/utf.wide", "spyglass/color.first", "spyglass/color.levels"], apart := false, laid := [("spyglass/utf.none", laid_spyglass_utf_none), ("spyglass/utf.wide", laid_spyglass_utf_wide), ("spyglass/color.first", laid_spyglass_color_first), ("spyglass/color.levels", laid_spyglass_color_levels)] }
def DiffAboveSaid : Prop := diffAboveRow.holds Tryz.pinned (OpenSpec.ofChange diffAboveSpec)

/-- ITS FALSE NEIGHBOUR: 'it returns false'. Refute it at one input. -/
def diffAboveWrong : ChangeSpec := { name := "diffAbove", fn := fun _ => fun
  | [d1, d2, d3] => { results := [.lit (.bool false)], args := [d1, d2, d3] }
  | _ => none }
def DiffAboveWrongFalsely : Prop := diffAboveRow.holds Tryz.pinned (OpenSpec.ofChange diffAboveWrong)

/-- 'spyglasslaw28.ClientNil': WHATEVER THE INPUT: true; the input reads as it did. -/
def clientNilSpec : ChangeSpec := { name := "clientNil", fn := fun _ => fun
  | [d1, d2, d3] => { results := [.lit (.bool true)], args := [d1, d2, d3] }
  | _ => none }
def clientNilRow : OpenClaim := { program := "yteailohgaoglnaagreatdoor", sum := "b4bb7903037d711321bc7146fccaf3104d9fc0c919f14d61a9cd21ebd38ea247", func := "spyglass/spyglasslaw28.ClientNil", spec := "clientNil", unfollowed := true, recurses := true, named := ["spyglass/sha.roots", "spyglass/utf.none", "spyglass/utf.wide"], apart := false, laid := [("spyglass/sha.roots", laid_spyglass_sha_roots), ("spyglass/utf.none", laid_spyglass_utf_none), ("spyglass/utf.wide", laid_spyglass_utf_wide)] }
def ClientNilSaid : Prop := clientNilRow.holds Tryz.pinned (OpenSpec.ofChange clientNilSpec)

/-- ITS FALSE NEIGHBOUR: 'it returns false'. Refute it at one input. -/
def clientNilWrong : ChangeSpec := { name := "clientNil", fn := fun _ => fun
  | [d1, d2, d3] => { results := [.lit (.bool false)], args := [d1, d2, d3] }
  | _ => none }
def ClientNilWrongFalsely : Prop := clientNilRow.holds Tryz.pinned (OpenSpec.ofChange clientNilWrong)

/- THE SECOND FORM. 'bulk': how many values and letters a reading holds, each counted each time it is reached (what is shared counts as often as it is met; a slice's spare places count too). A statement '..UptoSaid' is the law's where the arguments, and the package variables that the reading takes, are together of bulk at most 1048576: NARROWER than '..Said'. Prove '..Said' where nothing that the law and all that it calls make is longer than what came in: it says more and counts as full. Else prove '..UptoSaid'. A law counts once. -/
mutual
def uptoBulk {H : Type} : DataW H → Nat
  | .lit (.string bytes) => bytes.length + 1
  | .lit _ => 1
  | .nil => 1
  | .ptr d => uptoBulk d + 1
  | .slice elems spare => uptoBulkAll elems + uptoBulkAll spare + 1
  | .agg parts => uptoBulkAll parts + 1
  | .iface _ d => uptoBulk d + 1
  | .map entries => uptoBulkEntries entries + 1
  | .held _ => 1
def uptoBulkAll {H : Type} : List (DataW H) → Nat
  | [] => 0
  | d :: r => uptoBulk d + uptoBulkAll r
def uptoBulkEntries {H : Type} : List (Lit × DataW H) → Nat
  | [] => 0
  | x :: r => uptoBulkEntry x + uptoBulkEntries r
def uptoBulkEntry {H : Type} : Lit × DataW H → Nat
  | (.string bytes, d) => bytes.length + uptoBulk d + 1
  | (_, d) => uptoBulk d + 1
 end
def uptoSmall : (H : Type) → List (DataW H) → Bool := fun _ ds => decide (uptoBulkAll ds ≤ 1048576)
def OpenSpec.upto (s : _root_.Go.ChangeSpec) : _root_.Go.OpenSpec := { _root_.Go.OpenSpec.ofChange s with cond := some uptoSmall }

/-- 'spyglasslaw25.RingNil', WHERE WHAT IT READS IS OF BULK AT MOST 1048576: true; the input reads as it did. -/
def ringNilUptoRow : OpenClaim := { program := "yteailohgaoglnaagreatdoor", sum := "b4bb7903037d711321bc7146fccaf3104d9fc0c919f14d61a9cd21ebd38ea247", func := "spyglass/spyglasslaw25.RingNil", spec := "ringNil", unfollowed := true, recurses := true, named := ["spyglass/utf.none", "spyglass/utf.wide"], apart := false, laid := [("spyglass/utf.none", laid_spyglass_utf_none), ("spyglass/utf.wide", laid_spyglass_utf_wide)], narrowed := true }
def RingNilUptoSaid : Prop := ringNilUptoRow.holds Tryz.pinned (OpenSpec.upto ringNilSpec)

/-- 'spyglasslaw25.RingBytes', WHERE WHAT IT READS IS OF BULK AT MOST 1048576: true; the input reads as it did. -/
def ringBytesUptoRow : OpenClaim := { program := "yteailohgaoglnaagreatdoor", sum := "b4bb7903037d711321bc7146fccaf3104d9fc0c919f14d61a9cd21ebd38ea247", func := "spyglass/spyglasslaw25.RingBytes", spec := "ringBytes", unfollowed := true, recurses := true, named := ["spyglass/utf.none", "spyglass/utf.wide"], apart := false, laid := [("spyglass/utf.none", laid_spyglass_utf_none), ("spyglass/utf.wide", laid_spyglass_utf_wide)], narrowed := true }
def RingBytesUptoSaid : Prop := ringBytesUptoRow.holds Tryz.pinned (OpenSpec.upto ringBytesSpec)

/-- 'spyglasslaw19.DiffAbove', WHERE WHAT IT READS IS OF BULK AT MOST 1048576: true; the input reads as it did. -/
def diffAboveUptoRow : OpenClaim := { program := "yteailohgaoglnaagreatdoor", sum := "b4bb7903037d711321bc7146fccaf3104d9fc0c919f14d61a9cd21ebd38ea247", func := "spyglass/spyglasslaw19.DiffAbove", spec := "diffAbove", unfollowed := true, recurses := true, named := ["spyglass/utf.none", "spyglass/utf.wide", "spyglass/color.first", "spyglass/color.levels"], apart := false, laid := [("spyglass/utf.none", laid_spyglass_utf_none), ("spyglass/utf.wide", laid_spyglass_utf_wide), ("spyglass/color.first", laid_spyglass_color_first), ("spyglass/color.levels", laid_spyglass_color_levels)], narrowed := true }
def DiffAboveUptoSaid : Prop := diffAboveUptoRow.holds Tryz.pinned (OpenSpec.upto diffAboveSpec)

/-- 'spyglasslaw28.ClientNil', WHERE WHAT IT READS IS OF BULK AT MOST 1048576: true; the input reads as it did. -/
def clientNilUptoRow : OpenClaim := { program := "yteailohgaoglnaagreatdoor", sum := "b4bb7903037d711321bc7146fccaf3104d9fc0c919f14d61a9cd21ebd38ea247", func := "spyglass/spyglasslaw28.ClientNil", spec := "clientNil", unfollowed := true, recurses := true, named := ["spyglass/sha.roots", "spyglass/utf.none", "spyglass/utf.wide"], apart := false, laid := [("spyglass/sha.roots", laid_spyglass_sha_roots), ("spyglass/utf.none", laid_spyglass_utf_none), ("spyglass/utf.wide", laid_spyglass_utf_wide)], narrowed := true }
def ClientNilUptoSaid : Prop := clientNilUptoRow.holds Tryz.pinned (OpenSpec.upto clientNilSpec)

end Rows
end Go.Proofs.YteailohgaoglnaaGreatDoor
