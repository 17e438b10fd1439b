/-
  DERIVED. GIVEN WITH THE SEED: THE CARDS: each row of YtpfnmcgcpgcfjaaDoorRows.lean that lists a variable, with what it lists TIED to the program's text (the seventh form; the later family's looks); each row that meets fmt, with fmt's text TOLD by the authors' own Lean function (tested against real Go, not proved from fmt's source: count such statements apart). THE CARD IS WHAT COUNTS. Prove the row's statement (the work); the ties are given (YtpfnmcgcpgcfjaaDoorTie.lean); close each card by the builder's one call (the guide's Derived/Test/ToyasCard.lean, 'card_holds'). Laid BY PROGRAM, IN A SANDBOX (cutbox-door.mjs). By AI agents, Wed Nov 11 2026. No macro, syntax, notation, axiom, sorry.
-/
import Derived.Test.YtpfnmcgcpgcfjaaDoorRows
import GoSem.ClaimSeven
namespace Go.Proofs.YtpfnmcgcpgcfjaaDoor
namespace Rows

/-- THE TIED CARD OF 'tesseralaw12.CutWhole'. -/
def cutWholeCard : Claim7 := { stood := { row := cutWholeRow, standIns := [], harness := (true, "8e93ff5993d1fb68852a5bab255635edccede272f49d7bd714503f8750cd78e0"), looks := false }, kinds := [], alts := [], laidByText := true, laidKinds := [.data, .pinned], laidTests := true, laidLooks := .later }
def CutWholeCardSaid : Prop := Claim7.holds Tryd.pinned (.plain (OpenSpec.ofChange cutWholeSpec)) cutWholeCard

/-- THE TIED CARD OF 'tesseralaw13.StepKept'. -/
def stepKeptCard : Claim7 := { stood := { row := stepKeptRow, standIns := [], harness := (true, "8e93ff5993d1fb68852a5bab255635edccede272f49d7bd714503f8750cd78e0"), looks := false }, kinds := [], alts := [], laidByText := true, laidKinds := [.data, .pinned], laidTests := true, laidLooks := .later }
def StepKeptCardSaid : Prop := Claim7.holds Tryd.pinned (.plain (OpenSpec.ofChange stepKeptSpec)) stepKeptCard

/-- THE TIED CARD OF 'tesseralaw13.StepHeld'. -/
def stepHeldCard : Claim7 := { stood := { row := stepHeldRow, standIns := [], harness := (true, "8e93ff5993d1fb68852a5bab255635edccede272f49d7bd714503f8750cd78e0"), looks := false }, kinds := [], alts := [], laidByText := true, laidKinds := [.data, .pinned], laidTests := true, laidLooks := .later }
def StepHeldCardSaid : Prop := Claim7.holds Tryd.pinned (.plain (OpenSpec.ofChange stepHeldSpec)) stepHeldCard

/-- THE TIED CARD OF 'tesseralaw13.StepNumbers'. -/
def stepNumbersCard : Claim7 := { stood := { row := stepNumbersRow, standIns := [], harness := (true, "8e93ff5993d1fb68852a5bab255635edccede272f49d7bd714503f8750cd78e0"), looks := false }, kinds := [], alts := [], laidByText := true, laidKinds := [.data, .pinned], laidTests := true, laidLooks := .later }
def StepNumbersCardSaid : Prop := Claim7.holds Tryd.pinned (.plain (OpenSpec.ofChange stepNumbersSpec)) stepNumbersCard

/-- THE TIED CARD OF 'tesseralaw13.StepPlays'. -/
def stepPlaysCard : Claim7 := { stood := { row := stepPlaysRow, standIns := [], harness := (true, "8e93ff5993d1fb68852a5bab255635edccede272f49d7bd714503f8750cd78e0"), looks := false }, kinds := [], alts := [], laidByText := true, laidKinds := [.data, .pinned], laidTests := true, laidLooks := .later }
def StepPlaysCardSaid : Prop := Claim7.holds Tryd.pinned (.plain (OpenSpec.ofChange stepPlaysSpec)) stepPlaysCard

/-- THE TIED CARD OF 'tesseralaw13.StepWhole'. -/
def stepWholeCard : Claim7 := { stood := { row := stepWholeRow, standIns := [], harness := (true, "8e93ff5993d1fb68852a5bab255635edccede272f49d7bd714503f8750cd78e0"), looks := false }, kinds := [], alts := [], laidByText := true, laidKinds := [.data, .pinned], laidTests := true, laidLooks := .later }
def StepWholeCardSaid : Prop := Claim7.holds Tryd.pinned (.plain (OpenSpec.ofChange stepWholeSpec)) stepWholeCard

/-- THE TIED CARD OF 'tesseralaw13.StepSooner'. -/
def stepSoonerCard : Claim7 := { stood := { row := stepSoonerRow, standIns := [], harness := (true, "8e93ff5993d1fb68852a5bab255635edccede272f49d7bd714503f8750cd78e0"), looks := false }, kinds := [], alts := [], laidByText := true, laidKinds := [.data, .pinned], laidTests := true, laidLooks := .later }
def StepSoonerCardSaid : Prop := Claim7.holds Tryd.pinned (.plain (OpenSpec.ofChange stepSoonerSpec)) stepSoonerCard

/-- THE TIED CARD OF 'tesseralaw14.EncodeCovers'. -/
def encodeCoversCard : Claim7 := { stood := { row := encodeCoversRow, standIns := [], harness := (true, "8e93ff5993d1fb68852a5bab255635edccede272f49d7bd714503f8750cd78e0"), looks := false }, kinds := [], alts := [], laidByText := true, laidKinds := [.data, .pinned], laidTests := true, laidLooks := .later }
def EncodeCoversCardSaid : Prop := Claim7.holds Tryd.pinned (.plain (OpenSpec.ofChange encodeCoversSpec)) encodeCoversCard

/-- THE TIED CARD OF 'tesseralaw14.EncodeGrows'. -/
def encodeGrowsCard : Claim7 := { stood := { row := encodeGrowsRow, standIns := [], harness := (true, "8e93ff5993d1fb68852a5bab255635edccede272f49d7bd714503f8750cd78e0"), looks := false }, kinds := [], alts := [], laidByText := true, laidKinds := [.data, .pinned], laidTests := true, laidLooks := .later }
def EncodeGrowsCardSaid : Prop := Claim7.holds Tryd.pinned (.plain (OpenSpec.ofChange encodeGrowsSpec)) encodeGrowsCard

/-- THE TIED CARD OF 'tesseralaw14.EncodeCounts'. -/
def encodeCountsCard : Claim7 := { stood := { row := encodeCountsRow, standIns := [], harness := (true, "8e93ff5993d1fb68852a5bab255635edccede272f49d7bd714503f8750cd78e0"), looks := false }, kinds := [], alts := [], laidByText := true, laidKinds := [.data, .pinned], laidTests := true, laidLooks := .later }
def EncodeCountsCardSaid : Prop := Claim7.holds Tryd.pinned (.plain (OpenSpec.ofChange encodeCountsSpec)) encodeCountsCard

/-- THE TIED CARD OF 'tesseralaw20.WalkChunks'. -/
def walkChunksCard : Claim7 := { stood := { row := walkChunksRow, standIns := [], harness := (true, "8e93ff5993d1fb68852a5bab255635edccede272f49d7bd714503f8750cd78e0"), looks := false }, kinds := [], alts := [], laidByText := true, laidKinds := [.data, .pinned], laidTests := true, laidLooks := .later }
def WalkChunksCardSaid : Prop := Claim7.holds Tryd.pinned (.plain (OpenSpec.ofChange walkChunksSpec)) walkChunksCard

/-- THE SECOND FORM's CARD OF 'tesseralaw12.CutWhole'. -/
def cutWholeUptoCard : Claim7 := { stood := { row := cutWholeUptoRow, standIns := [], harness := (true, "8e93ff5993d1fb68852a5bab255635edccede272f49d7bd714503f8750cd78e0"), looks := false }, kinds := [], alts := [], laidByText := true, laidKinds := [.data, .pinned], laidTests := true, laidLooks := .later }
def CutWholeUptoCardSaid : Prop := Claim7.holds Tryd.pinned (.plain (OpenSpec.upto cutWholeSpec)) cutWholeUptoCard

/-- THE SECOND FORM's CARD OF 'tesseralaw13.StepKept'. -/
def stepKeptUptoCard : Claim7 := { stood := { row := stepKeptUptoRow, standIns := [], harness := (true, "8e93ff5993d1fb68852a5bab255635edccede272f49d7bd714503f8750cd78e0"), looks := false }, kinds := [], alts := [], laidByText := true, laidKinds := [.data, .pinned], laidTests := true, laidLooks := .later }
def StepKeptUptoCardSaid : Prop := Claim7.holds Tryd.pinned (.plain (OpenSpec.upto stepKeptSpec)) stepKeptUptoCard

/-- THE SECOND FORM's CARD OF 'tesseralaw13.StepHeld'. -/
def stepHeldUptoCard : Claim7 := { stood := { row := stepHeldUptoRow, standIns := [], harness := (true, "8e93ff5993d1fb68852a5bab255635edccede272f49d7bd714503f8750cd78e0"), looks := false }, kinds := [], alts := [], laidByText := true, laidKinds := [.data, .pinned], laidTests := true, laidLooks := .later }
def StepHeldUptoCardSaid : Prop := Claim7.holds Tryd.pinned (.plain (OpenSpec.upto stepHeldSpec)) stepHeldUptoCard

/-- THE SECOND FORM's CARD OF 'tesseralaw13.StepNumbers'. -/
def stepNumbersUptoCard : Claim7 := { stood := { row := stepNumbersUptoRow, standIns := [], harness := (true, "8e93ff5993d1fb68852a5bab255635edccede272f49d7bd714503f8750cd78e0"), looks := false }, kinds := [], alts := [], laidByText := true, laidKinds := [.data, .pinned], laidTests := true, laidLooks := .later }
def StepNumbersUptoCardSaid : Prop := Claim7.holds Tryd.pinned (.plain (OpenSpec.upto stepNumbersSpec)) stepNumbersUptoCard

/-- THE SECOND FORM's CARD OF 'tesseralaw13.StepPlays'. -/
def stepPlaysUptoCard : Claim7 := { stood := { row := stepPlaysUptoRow, standIns := [], harness := (true, "8e93ff5993d1fb68852a5bab255635edccede272f49d7bd714503f8750cd78e0"), looks := false }, kinds := [], alts := [], laidByText := true, laidKinds := [.data, .pinned], laidTests := true, laidLooks := .later }
def StepPlaysUptoCardSaid : Prop := Claim7.holds Tryd.pinned (.plain (OpenSpec.upto stepPlaysSpec)) stepPlaysUptoCard

/-- THE SECOND FORM's CARD OF 'tesseralaw13.StepWhole'. -/
def stepWholeUptoCard : Claim7 := { stood := { row := stepWholeUptoRow, standIns := [], harness := (true, "8e93ff5993d1fb68852a5bab255635edccede272f49d7bd714503f8750cd78e0"), looks := false }, kinds := [], alts := [], laidByText := true, laidKinds := [.data, .pinned], laidTests := true, laidLooks := .later }
def StepWholeUptoCardSaid : Prop := Claim7.holds Tryd.pinned (.plain (OpenSpec.upto stepWholeSpec)) stepWholeUptoCard

/-- THE SECOND FORM's CARD OF 'tesseralaw13.StepSooner'. -/
def stepSoonerUptoCard : Claim7 := { stood := { row := stepSoonerUptoRow, standIns := [], harness := (true, "8e93ff5993d1fb68852a5bab255635edccede272f49d7bd714503f8750cd78e0"), looks := false }, kinds := [], alts := [], laidByText := true, laidKinds := [.data, .pinned], laidTests := true, laidLooks := .later }
def StepSoonerUptoCardSaid : Prop := Claim7.holds Tryd.pinned (.plain (OpenSpec.upto stepSoonerSpec)) stepSoonerUptoCard

/-- THE SECOND FORM's CARD OF 'tesseralaw14.EncodeCovers'. -/
def encodeCoversUptoCard : Claim7 := { stood := { row := encodeCoversUptoRow, standIns := [], harness := (true, "8e93ff5993d1fb68852a5bab255635edccede272f49d7bd714503f8750cd78e0"), looks := false }, kinds := [], alts := [], laidByText := true, laidKinds := [.data, .pinned], laidTests := true, laidLooks := .later }
def EncodeCoversUptoCardSaid : Prop := Claim7.holds Tryd.pinned (.plain (OpenSpec.upto encodeCoversSpec)) encodeCoversUptoCard

/-- THE SECOND FORM's CARD OF 'tesseralaw14.EncodeGrows'. -/
def encodeGrowsUptoCard : Claim7 := { stood := { row := encodeGrowsUptoRow, standIns := [], harness := (true, "8e93ff5993d1fb68852a5bab255635edccede272f49d7bd714503f8750cd78e0"), looks := false }, kinds := [], alts := [], laidByText := true, laidKinds := [.data, .pinned], laidTests := true, laidLooks := .later }
def EncodeGrowsUptoCardSaid : Prop := Claim7.holds Tryd.pinned (.plain (OpenSpec.upto encodeGrowsSpec)) encodeGrowsUptoCard

/-- THE SECOND FORM's CARD OF 'tesseralaw14.EncodeCounts'. -/
def encodeCountsUptoCard : Claim7 := { stood := { row := encodeCountsUptoRow, standIns := [], harness := (true, "8e93ff5993d1fb68852a5bab255635edccede272f49d7bd714503f8750cd78e0"), looks := false }, kinds := [], alts := [], laidByText := true, laidKinds := [.data, .pinned], laidTests := true, laidLooks := .later }
def EncodeCountsUptoCardSaid : Prop := Claim7.holds Tryd.pinned (.plain (OpenSpec.upto encodeCountsSpec)) encodeCountsUptoCard

/-- THE SECOND FORM's CARD OF 'tesseralaw20.WalkChunks'. -/
def walkChunksUptoCard : Claim7 := { stood := { row := walkChunksUptoRow, standIns := [], harness := (true, "8e93ff5993d1fb68852a5bab255635edccede272f49d7bd714503f8750cd78e0"), looks := false }, kinds := [], alts := [], laidByText := true, laidKinds := [.data, .pinned], laidTests := true, laidLooks := .later }
def WalkChunksUptoCardSaid : Prop := Claim7.holds Tryd.pinned (.plain (OpenSpec.upto walkChunksSpec)) walkChunksUptoCard
end Rows
end Go.Proofs.YtpfnmcgcpgcfjaaDoor
