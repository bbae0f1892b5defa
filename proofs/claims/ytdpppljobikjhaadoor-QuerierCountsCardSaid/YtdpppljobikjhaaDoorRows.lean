/-
  NARROWER THAN 'FOR EVERY INPUT', by the rows' own cells (each row's printed sentence says how): QuerierTwo: laid · QuerierAlone: laid · QuerierQuiet: laid · QuerierAsks: laid · QuerierCounts: laid.
  DERIVED. THE GIVEN ROWS OF THIS SEAT. 5 by the template 'for every input the law returns true; each argument reads behind the call as it read before'; 0 by the template 'total and deterministic' (their statements: YtdpppljobikjhaaDoorTotals.lean).
  GIVEN WITH THE SEED: the statements are not yours to turn. If you find one false, say at which input.
  Laid BY PROGRAM, IN A SANDBOX (cutbox-rows.mjs): the forced cells as the released guide's own fill.sh prints them over the translation 375be6740aa4580b… (all of the seat's roots in one cut). By AI agents, Wed Nov 11 2026. No macro, syntax, notation, axiom, sorry.
-/
import Derived.Test.YtdpppljobikjhaaDoorChecked
import GoSem.PinnedTables
import GoSem.Claim
import GoSem.ClaimJoined
import GoSem.ClaimMapViews
import Derived.JoinedTies
import Derived.KernelRfl
namespace Go.Proofs.YtdpppljobikjhaaDoor
/- THE CELL 'sum', in the pinned program and in every row, IS THE sha256 OF THE DUMP (.gsa) THAT YtdpppljobikjhaaDoorProg.lean LOADS. Nothing in Lean hashes anything: it is a label: what it is worth is what the hold of that sum in a sandbox is worth. -/
noncomputable def Tryd.pinned : Pinned := { name := "ytdpppljobikjhaadoor", sum := "375be6740aa4580b0589af6aa94db77b68bcf372e926d2ec81c02c5170c62fbc", checked := Tryd.checked }
namespace Rows
def none {H : Type} : Left H := { results := [], args := [] }

/- WHAT THE LISTED PACKAGE-LEVEL VARIABLES READ AS WHEN THE CALL BEGINS. Each datum BY PROGRAM (the guide's laid-datum.mjs) off the statement by which the dump's own 'gosem.cut.vars' lays the variable. In a bare row this is a premise. The card (YtdpppljobikjhaaDoorCards.lean) ties it to the program's text. -/
def laid_unicode_utf8_acceptRanges {H : Type} : DataW H := .agg [.agg [.lit (.int .u8 128), .lit (.int .u8 191)], .agg [.lit (.int .u8 160), .lit (.int .u8 191)], .agg [.lit (.int .u8 128), .lit (.int .u8 159)], .agg [.lit (.int .u8 144), .lit (.int .u8 191)], .agg [.lit (.int .u8 128), .lit (.int .u8 143)], .agg [.lit (.int .u8 0), .lit (.int .u8 0)], .agg [.lit (.int .u8 0), .lit (.int .u8 0)], .agg [.lit (.int .u8 0), .lit (.int .u8 0)], .agg [.lit (.int .u8 0), .lit (.int .u8 0)], .agg [.lit (.int .u8 0), .lit (.int .u8 0)], .agg [.lit (.int .u8 0), .lit (.int .u8 0)], .agg [.lit (.int .u8 0), .lit (.int .u8 0)], .agg [.lit (.int .u8 0), .lit (.int .u8 0)], .agg [.lit (.int .u8 0), .lit (.int .u8 0)], .agg [.lit (.int .u8 0), .lit (.int .u8 0)], .agg [.lit (.int .u8 0), .lit (.int .u8 0)]]
/-- One of Go's own tables, pinned by name: the form's constant. -/
def laid_unicode_utf8_first : DataW Unit := Go.Pinned.utf8First

/-- 'siphonlaw20.QuerierTwo': WHATEVER THE INPUT: true; the input reads as it did. -/
def querierTwoSpec : ChangeSpec := { name := "querierTwo", fn := fun _ => fun
  | [d] => { results := [.lit (.bool true)], args := [d] }
  | _ => none }
def querierTwoRow : OpenClaim := { program := "ytdpppljobikjhaadoor", sum := "375be6740aa4580b0589af6aa94db77b68bcf372e926d2ec81c02c5170c62fbc", func := "siphon/siphonlaw20.QuerierTwo", spec := "querierTwo", inPlace := ["internal/bytealg.IndexByteString", "internal/bytealg.IndexString"], named := ["unicode/utf8.first", "unicode/utf8.acceptRanges", "internal/bytealg.MaxLen"], apart := false, laid := [("unicode/utf8.acceptRanges", laid_unicode_utf8_acceptRanges), ("unicode/utf8.first", laid_unicode_utf8_first)] }
def QuerierTwoSaid : Prop := querierTwoRow.holds Tryd.pinned (OpenSpec.ofChange querierTwoSpec)

/-- ITS FALSE NEIGHBOUR: 'it returns false'. Refute it at one input. -/
def querierTwoWrong : ChangeSpec := { name := "querierTwo", fn := fun _ => fun
  | [d] => { results := [.lit (.bool false)], args := [d] }
  | _ => none }
def QuerierTwoWrongFalsely : Prop := querierTwoRow.holds Tryd.pinned (OpenSpec.ofChange querierTwoWrong)

/-- 'siphonlaw20.QuerierAlone': WHATEVER THE INPUT: true; the input reads as it did. -/
def querierAloneSpec : ChangeSpec := { name := "querierAlone", fn := fun _ => fun
  | [d1, d2, d3] => { results := [.lit (.bool true)], args := [d1, d2, d3] }
  | _ => none }
def querierAloneRow : OpenClaim := { program := "ytdpppljobikjhaadoor", sum := "375be6740aa4580b0589af6aa94db77b68bcf372e926d2ec81c02c5170c62fbc", func := "siphon/siphonlaw20.QuerierAlone", spec := "querierAlone", inPlace := ["internal/bytealg.IndexByteString", "internal/bytealg.IndexString"], named := ["unicode/utf8.first", "unicode/utf8.acceptRanges", "internal/bytealg.MaxLen"], apart := false, laid := [("unicode/utf8.acceptRanges", laid_unicode_utf8_acceptRanges), ("unicode/utf8.first", laid_unicode_utf8_first)] }
def QuerierAloneSaid : Prop := querierAloneRow.holds Tryd.pinned (OpenSpec.ofChange querierAloneSpec)

/-- ITS FALSE NEIGHBOUR: 'it returns false'. Refute it at one input. -/
def querierAloneWrong : ChangeSpec := { name := "querierAlone", fn := fun _ => fun
  | [d1, d2, d3] => { results := [.lit (.bool false)], args := [d1, d2, d3] }
  | _ => none }
def QuerierAloneWrongFalsely : Prop := querierAloneRow.holds Tryd.pinned (OpenSpec.ofChange querierAloneWrong)

/-- 'siphonlaw20.QuerierQuiet': WHATEVER THE INPUT: true; the input reads as it did. -/
def querierQuietSpec : ChangeSpec := { name := "querierQuiet", fn := fun _ => fun
  | [d1, d2, d3] => { results := [.lit (.bool true)], args := [d1, d2, d3] }
  | _ => none }
def querierQuietRow : OpenClaim := { program := "ytdpppljobikjhaadoor", sum := "375be6740aa4580b0589af6aa94db77b68bcf372e926d2ec81c02c5170c62fbc", func := "siphon/siphonlaw20.QuerierQuiet", spec := "querierQuiet", inPlace := ["internal/bytealg.IndexByteString", "internal/bytealg.IndexString"], named := ["unicode/utf8.first", "unicode/utf8.acceptRanges", "internal/bytealg.MaxLen"], apart := false, laid := [("unicode/utf8.acceptRanges", laid_unicode_utf8_acceptRanges), ("unicode/utf8.first", laid_unicode_utf8_first)] }
def QuerierQuietSaid : Prop := querierQuietRow.holds Tryd.pinned (OpenSpec.ofChange querierQuietSpec)

/-- ITS FALSE NEIGHBOUR: 'it returns false'. Refute it at one input. -/
def querierQuietWrong : ChangeSpec := { name := "querierQuiet", fn := fun _ => fun
  | [d1, d2, d3] => { results := [.lit (.bool false)], args := [d1, d2, d3] }
  | _ => none }
def QuerierQuietWrongFalsely : Prop := querierQuietRow.holds Tryd.pinned (OpenSpec.ofChange querierQuietWrong)

/-- 'siphonlaw20.QuerierAsks': WHATEVER THE INPUT: true; the input reads as it did. -/
def querierAsksSpec : ChangeSpec := { name := "querierAsks", fn := fun _ => fun
  | [d1, d2, d3] => { results := [.lit (.bool true)], args := [d1, d2, d3] }
  | _ => none }
def querierAsksRow : OpenClaim := { program := "ytdpppljobikjhaadoor", sum := "375be6740aa4580b0589af6aa94db77b68bcf372e926d2ec81c02c5170c62fbc", func := "siphon/siphonlaw20.QuerierAsks", spec := "querierAsks", inPlace := ["internal/bytealg.IndexByteString", "internal/bytealg.IndexString"], unfollowed := true, recurses := true, named := ["unicode/utf8.first", "unicode/utf8.acceptRanges", "internal/bytealg.MaxLen"], apart := false, laid := [("unicode/utf8.acceptRanges", laid_unicode_utf8_acceptRanges), ("unicode/utf8.first", laid_unicode_utf8_first)] }
def QuerierAsksSaid : Prop := querierAsksRow.holds Tryd.pinned (OpenSpec.ofChange querierAsksSpec)

/-- ITS FALSE NEIGHBOUR: 'it returns false'. Refute it at one input. -/
def querierAsksWrong : ChangeSpec := { name := "querierAsks", fn := fun _ => fun
  | [d1, d2, d3] => { results := [.lit (.bool false)], args := [d1, d2, d3] }
  | _ => none }
def QuerierAsksWrongFalsely : Prop := querierAsksRow.holds Tryd.pinned (OpenSpec.ofChange querierAsksWrong)

/-- 'siphonlaw20.QuerierCounts': WHATEVER THE INPUT: true; the input reads as it did. -/
def querierCountsSpec : ChangeSpec := { name := "querierCounts", fn := fun _ => fun
  | [d] => { results := [.lit (.bool true)], args := [d] }
  | _ => none }
def querierCountsRow : OpenClaim := { program := "ytdpppljobikjhaadoor", sum := "375be6740aa4580b0589af6aa94db77b68bcf372e926d2ec81c02c5170c62fbc", func := "siphon/siphonlaw20.QuerierCounts", spec := "querierCounts", inPlace := ["internal/bytealg.IndexByteString", "internal/bytealg.IndexString"], unfollowed := true, recurses := true, named := ["unicode/utf8.first", "unicode/utf8.acceptRanges", "internal/bytealg.MaxLen"], apart := false, laid := [("unicode/utf8.acceptRanges", laid_unicode_utf8_acceptRanges), ("unicode/utf8.first", laid_unicode_utf8_first)] }
def QuerierCountsSaid : Prop := querierCountsRow.holds Tryd.pinned (OpenSpec.ofChange querierCountsSpec)

/-- ITS FALSE NEIGHBOUR: 'it returns false'. Refute it at one input. -/
def querierCountsWrong : ChangeSpec := { name := "querierCounts", fn := fun _ => fun
  | [d] => { results := [.lit (.bool false)], args := [d] }
  | _ => none }
def QuerierCountsWrongFalsely : Prop := querierCountsRow.holds Tryd.pinned (OpenSpec.ofChange querierCountsWrong)

/- THE SECOND FORM. 'bulk': how many values and letters a reading holds, each counted each time it is reached (what is shared counts as often as it is met; a slice's spare places count too). A statement '..UptoSaid' is the law's where the arguments, and the package variables that the reading takes, are together of bulk at most 1048576: NARROWER than '..Said'. Prove '..Said' where nothing that the law and all that it calls make is longer than what came in: it says more and counts as full. Else prove '..UptoSaid'. A law counts once. -/
mutual
def uptoBulk {H : Type} : DataW H → Nat
  | .lit (.string bytes) => bytes.length + 1
  | .lit _ => 1
  | .nil => 1
  | .ptr d => uptoBulk d + 1
  | .slice elems spare => uptoBulkAll elems + uptoBulkAll spare + 1
  | .agg parts => uptoBulkAll parts + 1
  | .iface _ d => uptoBulk d + 1
  | .map entries => uptoBulkEntries entries + 1
  | .held _ => 1
def uptoBulkAll {H : Type} : List (DataW H) → Nat
  | [] => 0
  | d :: r => uptoBulk d + uptoBulkAll r
def uptoBulkEntries {H : Type} : List (Lit × DataW H) → Nat
  | [] => 0
  | x :: r => uptoBulkEntry x + uptoBulkEntries r
def uptoBulkEntry {H : Type} : Lit × DataW H → Nat
  | (.string bytes, d) => bytes.length + uptoBulk d + 1
  | (_, d) => uptoBulk d + 1
 end
def uptoSmall : (H : Type) → List (DataW H) → Bool := fun _ ds => decide (uptoBulkAll ds ≤ 1048576)
def OpenSpec.upto (s : _root_.Go.ChangeSpec) : _root_.Go.OpenSpec := { _root_.Go.OpenSpec.ofChange s with cond := some uptoSmall }

/-- 'siphonlaw20.QuerierTwo', WHERE WHAT IT READS IS OF BULK AT MOST 1048576: true; the input reads as it did. -/
def querierTwoUptoRow : OpenClaim := { program := "ytdpppljobikjhaadoor", sum := "375be6740aa4580b0589af6aa94db77b68bcf372e926d2ec81c02c5170c62fbc", func := "siphon/siphonlaw20.QuerierTwo", spec := "querierTwo", inPlace := ["internal/bytealg.IndexByteString", "internal/bytealg.IndexString"], named := ["unicode/utf8.first", "unicode/utf8.acceptRanges", "internal/bytealg.MaxLen"], apart := false, laid := [("unicode/utf8.acceptRanges", laid_unicode_utf8_acceptRanges), ("unicode/utf8.first", laid_unicode_utf8_first)], narrowed := true }
def QuerierTwoUptoSaid : Prop := querierTwoUptoRow.holds Tryd.pinned (OpenSpec.upto querierTwoSpec)

/-- 'siphonlaw20.QuerierAlone', WHERE WHAT IT READS IS OF BULK AT MOST 1048576: true; the input reads as it did. -/
def querierAloneUptoRow : OpenClaim := { program := "ytdpppljobikjhaadoor", sum := "375be6740aa4580b0589af6aa94db77b68bcf372e926d2ec81c02c5170c62fbc", func := "siphon/siphonlaw20.QuerierAlone", spec := "querierAlone", inPlace := ["internal/bytealg.IndexByteString", "internal/bytealg.IndexString"], named := ["unicode/utf8.first", "unicode/utf8.acceptRanges", "internal/bytealg.MaxLen"], apart := false, laid := [("unicode/utf8.acceptRanges", laid_unicode_utf8_acceptRanges), ("unicode/utf8.first", laid_unicode_utf8_first)], narrowed := true }
def QuerierAloneUptoSaid : Prop := querierAloneUptoRow.holds Tryd.pinned (OpenSpec.upto querierAloneSpec)

/-- 'siphonlaw20.QuerierQuiet', WHERE WHAT IT READS IS OF BULK AT MOST 1048576: true; the input reads as it did. -/
def querierQuietUptoRow : OpenClaim := { program := "ytdpppljobikjhaadoor", sum := "375be6740aa4580b0589af6aa94db77b68bcf372e926d2ec81c02c5170c62fbc", func := "siphon/siphonlaw20.QuerierQuiet", spec := "querierQuiet", inPlace := ["internal/bytealg.IndexByteString", "internal/bytealg.IndexString"], named := ["unicode/utf8.first", "unicode/utf8.acceptRanges", "internal/bytealg.MaxLen"], apart := false, laid := [("unicode/utf8.acceptRanges", laid_unicode_utf8_acceptRanges), ("unicode/utf8.first", laid_unicode_utf8_first)], narrowed := true }
def QuerierQuietUptoSaid : Prop := querierQuietUptoRow.holds Tryd.pinned (OpenSpec.upto querierQuietSpec)

/-- 'siphonlaw20.QuerierAsks', WHERE WHAT IT READS IS OF BULK AT MOST 1048576: true; the input reads as it did. -/
def querierAsksUptoRow : OpenClaim := { program := "ytdpppljobikjhaadoor", sum := "375be6740aa4580b0589af6aa94db77b68bcf372e926d2ec81c02c5170c62fbc", func := "siphon/siphonlaw20.QuerierAsks", spec := "querierAsks", inPlace := ["internal/bytealg.IndexByteString", "internal/bytealg.IndexString"], unfollowed := true, recurses := true, named := ["unicode/utf8.first", "unicode/utf8.acceptRanges", "internal/bytealg.MaxLen"], apart := false, laid := [("unicode/utf8.acceptRanges", laid_unicode_utf8_acceptRanges), ("unicode/utf8.first", laid_unicode_utf8_first)], narrowed := true }
def QuerierAsksUptoSaid : Prop := querierAsksUptoRow.holds Tryd.pinned (OpenSpec.upto querierAsksSpec)

/-- 'siphonlaw20.QuerierCounts', WHERE WHAT IT READS IS OF BULK AT MOST 1048576: true; the input reads as it did. -/
def querierCountsUptoRow : OpenClaim := { program := "ytdpppljobikjhaadoor", sum := "375be6740aa4580b0589af6aa94db77b68bcf372e926d2ec81c02c5170c62fbc", func := "siphon/siphonlaw20.QuerierCounts", spec := "querierCounts", inPlace := ["internal/bytealg.IndexByteString", "internal/bytealg.IndexString"], unfollowed := true, recurses := true, named := ["unicode/utf8.first", "unicode/utf8.acceptRanges", "internal/bytealg.MaxLen"], apart := false, laid := [("unicode/utf8.acceptRanges", laid_unicode_utf8_acceptRanges), ("unicode/utf8.first", laid_unicode_utf8_first)], narrowed := true }
def QuerierCountsUptoSaid : Prop := querierCountsUptoRow.holds Tryd.pinned (OpenSpec.upto querierCountsSpec)

end Rows
end Go.Proofs.YtdpppljobikjhaaDoor
