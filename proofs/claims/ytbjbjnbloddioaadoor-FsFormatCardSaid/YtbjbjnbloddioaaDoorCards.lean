/-
  DERIVED. GIVEN WITH THE SEED: THE CARDS: each row of YtbjbjnbloddioaaDoorRows.lean that lists a variable, with what it lists TIED to the program's text (the seventh form; the later family's looks); each row that meets fmt, with fmt's text TOLD by the authors' own Lean function (tested against real Go, not proved from fmt's source: count such statements apart). THE CARD IS WHAT COUNTS. Prove the row's statement (the work); the ties are given (YtbjbjnbloddioaaDoorTie.lean); close each card by the builder's one call (the guide's Derived/Test/ToyasCard.lean, 'card_holds'). Laid BY PROGRAM, IN A SANDBOX (cutbox-door.mjs). By AI agents, Wed Nov 11 2026. No macro, syntax, notation, axiom, sorry.
-/
import Derived.Test.YtbjbjnbloddioaaDoorRows
import GoSem.ClaimSeven
namespace Go.Proofs.YtbjbjnbloddioaaDoor
namespace Rows

/-- THE TIED CARD OF 'baileylaw14.FsNone'. -/
def fsNoneCard : Claim7 := { stood := { row := fsNoneRow, standIns := [], harness := (true, "ee2971141607ed4101ed2bc5231c48a2251e073ae2a1a1a4f15003c18b712756"), looks := false }, kinds := [], alts := [], laidByText := true, laidKinds := [.data], laidTests := true, laidLooks := .later }
def FsNoneCardSaid : Prop := Claim7.holds Tryd.pinned (.plain (OpenSpec.ofChange fsNoneSpec)) fsNoneCard

/-- THE TIED CARD OF 'baileylaw14.FsWhole'. -/
def fsWholeCard : Claim7 := { stood := { row := fsWholeRow, standIns := [], harness := (true, "ee2971141607ed4101ed2bc5231c48a2251e073ae2a1a1a4f15003c18b712756"), looks := false }, kinds := [], alts := [], laidByText := true, laidKinds := [.data], laidTests := true, laidLooks := .later }
def FsWholeCardSaid : Prop := Claim7.holds Tryd.pinned (.plain (OpenSpec.ofChange fsWholeSpec)) fsWholeCard

/-- THE TIED CARD OF 'baileylaw14.FsCrash'. -/
def fsCrashCard : Claim7 := { stood := { row := fsCrashRow, standIns := [], harness := (true, "ee2971141607ed4101ed2bc5231c48a2251e073ae2a1a1a4f15003c18b712756"), looks := false }, kinds := [], alts := [], laidByText := true, laidKinds := [.data], laidTests := true, laidLooks := .later }
def FsCrashCardSaid : Prop := Claim7.holds Tryd.pinned (.plain (OpenSpec.ofChange fsCrashSpec)) fsCrashCard

/-- THE TIED CARD OF 'baileylaw14.FsTwice'. -/
def fsTwiceCard : Claim7 := { stood := { row := fsTwiceRow, standIns := [], harness := (true, "ee2971141607ed4101ed2bc5231c48a2251e073ae2a1a1a4f15003c18b712756"), looks := false }, kinds := [], alts := [], laidByText := true, laidKinds := [.data], laidTests := true, laidLooks := .later }
def FsTwiceCardSaid : Prop := Claim7.holds Tryd.pinned (.plain (OpenSpec.ofChange fsTwiceSpec)) fsTwiceCard

/-- THE TIED CARD OF 'baileylaw14.FsFormat'. -/
def fsFormatCard : Claim7 := { stood := { row := fsFormatRow, standIns := [], harness := (true, "ee2971141607ed4101ed2bc5231c48a2251e073ae2a1a1a4f15003c18b712756"), looks := false }, kinds := [], alts := [], laidByText := true, laidKinds := [.data], laidTests := true, laidLooks := .later }
def FsFormatCardSaid : Prop := Claim7.holds Tryd.pinned (.plain (OpenSpec.ofChange fsFormatSpec)) fsFormatCard

/-- THE SECOND FORM's CARD OF 'baileylaw14.FsNone'. -/
def fsNoneUptoCard : Claim7 := { stood := { row := fsNoneUptoRow, standIns := [], harness := (true, "ee2971141607ed4101ed2bc5231c48a2251e073ae2a1a1a4f15003c18b712756"), looks := false }, kinds := [], alts := [], laidByText := true, laidKinds := [.data], laidTests := true, laidLooks := .later }
def FsNoneUptoCardSaid : Prop := Claim7.holds Tryd.pinned (.plain (OpenSpec.upto fsNoneSpec)) fsNoneUptoCard

/-- THE SECOND FORM's CARD OF 'baileylaw14.FsWhole'. -/
def fsWholeUptoCard : Claim7 := { stood := { row := fsWholeUptoRow, standIns := [], harness := (true, "ee2971141607ed4101ed2bc5231c48a2251e073ae2a1a1a4f15003c18b712756"), looks := false }, kinds := [], alts := [], laidByText := true, laidKinds := [.data], laidTests := true, laidLooks := .later }
def FsWholeUptoCardSaid : Prop := Claim7.holds Tryd.pinned (.plain (OpenSpec.upto fsWholeSpec)) fsWholeUptoCard

/-- THE SECOND FORM's CARD OF 'baileylaw14.FsCrash'. -/
def fsCrashUptoCard : Claim7 := { stood := { row := fsCrashUptoRow, standIns := [], harness := (true, "ee2971141607ed4101ed2bc5231c48a2251e073ae2a1a1a4f15003c18b712756"), looks := false }, kinds := [], alts := [], laidByText := true, laidKinds := [.data], laidTests := true, laidLooks := .later }
def FsCrashUptoCardSaid : Prop := Claim7.holds Tryd.pinned (.plain (OpenSpec.upto fsCrashSpec)) fsCrashUptoCard

/-- THE SECOND FORM's CARD OF 'baileylaw14.FsTwice'. -/
def fsTwiceUptoCard : Claim7 := { stood := { row := fsTwiceUptoRow, standIns := [], harness := (true, "ee2971141607ed4101ed2bc5231c48a2251e073ae2a1a1a4f15003c18b712756"), looks := false }, kinds := [], alts := [], laidByText := true, laidKinds := [.data], laidTests := true, laidLooks := .later }
def FsTwiceUptoCardSaid : Prop := Claim7.holds Tryd.pinned (.plain (OpenSpec.upto fsTwiceSpec)) fsTwiceUptoCard

/-- THE SECOND FORM's CARD OF 'baileylaw14.FsFormat'. -/
def fsFormatUptoCard : Claim7 := { stood := { row := fsFormatUptoRow, standIns := [], harness := (true, "ee2971141607ed4101ed2bc5231c48a2251e073ae2a1a1a4f15003c18b712756"), looks := false }, kinds := [], alts := [], laidByText := true, laidKinds := [.data], laidTests := true, laidLooks := .later }
def FsFormatUptoCardSaid : Prop := Claim7.holds Tryd.pinned (.plain (OpenSpec.upto fsFormatSpec)) fsFormatUptoCard
end Rows
end Go.Proofs.YtbjbjnbloddioaaDoor
