/-
  DERIVED. GIVEN WITH THE SEED: THE CARDS: each row of YtaocddmmgefeoaaDoorRows.lean that lists a variable, with what it lists TIED to the program's text (the seventh form; the later family's looks); each row that meets fmt, with fmt's text TOLD by the authors' own Lean function (tested against real Go, not proved from fmt's source: count such statements apart). THE CARD IS WHAT COUNTS. Prove the row's statement (the work); the ties are given (YtaocddmmgefeoaaDoorTie.lean); close each card by the builder's one call (the guide's Derived/Test/ToyasCard.lean, 'card_holds'). Laid BY PROGRAM, IN A SANDBOX (cutbox-door.mjs). By AI agents, Wed Nov 11 2026. No macro, syntax, notation, axiom, sorry.
-/
import Derived.Test.YtaocddmmgefeoaaDoorRows
import GoSem.ClaimSeven
namespace Go.Proofs.YtaocddmmgefeoaaDoor
namespace Rows

/-- THE TIED CARD OF 'sluicelaw1.FrameSeals'. -/
def frameSealsCard : Claim7 := { stood := { row := frameSealsRow, standIns := [], harness := (true, "b51b637daf07b1c516b81e392dd3adef9276edd451377095f1386cb4716029b6"), looks := false }, kinds := [], alts := [], laidByText := true, laidKinds := [.data], laidTests := true, laidLooks := .later }
def FrameSealsCardSaid : Prop := Claim7.holds Tryd.pinned (.plain (OpenSpec.ofChange frameSealsSpec)) frameSealsCard

/-- THE TIED CARD OF 'sluicelaw1.FrameOpens'. -/
def frameOpensCard : Claim7 := { stood := { row := frameOpensRow, standIns := [], harness := (true, "b51b637daf07b1c516b81e392dd3adef9276edd451377095f1386cb4716029b6"), looks := false }, kinds := [], alts := [], laidByText := true, laidKinds := [.data], laidTests := true, laidLooks := .later }
def FrameOpensCardSaid : Prop := Claim7.holds Tryd.pinned (.plain (OpenSpec.ofChange frameOpensSpec)) frameOpensCard

/-- THE TIED CARD OF 'sluicelaw1.FrameAll'. -/
def frameAllCard : Claim7 := { stood := { row := frameAllRow, standIns := [], harness := (true, "b51b637daf07b1c516b81e392dd3adef9276edd451377095f1386cb4716029b6"), looks := false }, kinds := [], alts := [], laidByText := true, laidKinds := [.data], laidTests := true, laidLooks := .later }
def FrameAllCardSaid : Prop := Claim7.holds Tryd.pinned (.plain (OpenSpec.ofChange frameAllSpec)) frameAllCard

/-- THE TIED CARD OF 'sluicelaw1.FrameBack'. -/
def frameBackCard : Claim7 := { stood := { row := frameBackRow, standIns := [], harness := (true, "b51b637daf07b1c516b81e392dd3adef9276edd451377095f1386cb4716029b6"), looks := false }, kinds := [], alts := [], laidByText := true, laidKinds := [.data], laidTests := true, laidLooks := .later }
def FrameBackCardSaid : Prop := Claim7.holds Tryd.pinned (.plain (OpenSpec.ofChange frameBackSpec)) frameBackCard

/-- THE TIED CARD OF 'sluicelaw1.FrameForm'. -/
def frameFormCard : Claim7 := { stood := { row := frameFormRow, standIns := [], harness := (true, "b51b637daf07b1c516b81e392dd3adef9276edd451377095f1386cb4716029b6"), looks := false }, kinds := [], alts := [], laidByText := true, laidKinds := [.data], laidTests := true, laidLooks := .later }
def FrameFormCardSaid : Prop := Claim7.holds Tryd.pinned (.plain (OpenSpec.ofChange frameFormSpec)) frameFormCard

/-- THE TIED CARD OF 'sluicelaw1.FrameByte'. -/
def frameByteCard : Claim7 := { stood := { row := frameByteRow, standIns := [], harness := (true, "b51b637daf07b1c516b81e392dd3adef9276edd451377095f1386cb4716029b6"), looks := false }, kinds := [], alts := [], laidByText := true, laidKinds := [.data], laidTests := true, laidLooks := .later }
def FrameByteCardSaid : Prop := Claim7.holds Tryd.pinned (.plain (OpenSpec.ofChange frameByteSpec)) frameByteCard

/-- THE TIED CARD OF 'sluicelaw1.FrameBurst'. -/
def frameBurstCard : Claim7 := { stood := { row := frameBurstRow, standIns := [], harness := (true, "b51b637daf07b1c516b81e392dd3adef9276edd451377095f1386cb4716029b6"), looks := false }, kinds := [], alts := [], laidByText := true, laidKinds := [.data], laidTests := true, laidLooks := .later }
def FrameBurstCardSaid : Prop := Claim7.holds Tryd.pinned (.plain (OpenSpec.ofChange frameBurstSpec)) frameBurstCard

/-- THE TIED CARD OF 'sluicelaw1.FrameEnds'. -/
def frameEndsCard : Claim7 := { stood := { row := frameEndsRow, standIns := [], harness := (true, "b51b637daf07b1c516b81e392dd3adef9276edd451377095f1386cb4716029b6"), looks := false }, kinds := [], alts := [], laidByText := true, laidKinds := [.data], laidTests := true, laidLooks := .later }
def FrameEndsCardSaid : Prop := Claim7.holds Tryd.pinned (.plain (OpenSpec.ofChange frameEndsSpec)) frameEndsCard

/-- THE SECOND FORM's CARD OF 'sluicelaw1.FrameSeals'. -/
def frameSealsUptoCard : Claim7 := { stood := { row := frameSealsUptoRow, standIns := [], harness := (true, "b51b637daf07b1c516b81e392dd3adef9276edd451377095f1386cb4716029b6"), looks := false }, kinds := [], alts := [], laidByText := true, laidKinds := [.data], laidTests := true, laidLooks := .later }
def FrameSealsUptoCardSaid : Prop := Claim7.holds Tryd.pinned (.plain (OpenSpec.upto frameSealsSpec)) frameSealsUptoCard

/-- THE SECOND FORM's CARD OF 'sluicelaw1.FrameOpens'. -/
def frameOpensUptoCard : Claim7 := { stood := { row := frameOpensUptoRow, standIns := [], harness := (true, "b51b637daf07b1c516b81e392dd3adef9276edd451377095f1386cb4716029b6"), looks := false }, kinds := [], alts := [], laidByText := true, laidKinds := [.data], laidTests := true, laidLooks := .later }
def FrameOpensUptoCardSaid : Prop := Claim7.holds Tryd.pinned (.plain (OpenSpec.upto frameOpensSpec)) frameOpensUptoCard

/-- THE SECOND FORM's CARD OF 'sluicelaw1.FrameAll'. -/
def frameAllUptoCard : Claim7 := { stood := { row := frameAllUptoRow, standIns := [], harness := (true, "b51b637daf07b1c516b81e392dd3adef9276edd451377095f1386cb4716029b6"), looks := false }, kinds := [], alts := [], laidByText := true, laidKinds := [.data], laidTests := true, laidLooks := .later }
def FrameAllUptoCardSaid : Prop := Claim7.holds Tryd.pinned (.plain (OpenSpec.upto frameAllSpec)) frameAllUptoCard

/-- THE SECOND FORM's CARD OF 'sluicelaw1.FrameBack'. -/
def frameBackUptoCard : Claim7 := { stood := { row := frameBackUptoRow, standIns := [], harness := (true, "b51b637daf07b1c516b81e392dd3adef9276edd451377095f1386cb4716029b6"), looks := false }, kinds := [], alts := [], laidByText := true, laidKinds := [.data], laidTests := true, laidLooks := .later }
def FrameBackUptoCardSaid : Prop := Claim7.holds Tryd.pinned (.plain (OpenSpec.upto frameBackSpec)) frameBackUptoCard

/-- THE SECOND FORM's CARD OF 'sluicelaw1.FrameForm'. -/
def frameFormUptoCard : Claim7 := { stood := { row := frameFormUptoRow, standIns := [], harness := (true, "b51b637daf07b1c516b81e392dd3adef9276edd451377095f1386cb4716029b6"), looks := false }, kinds := [], alts := [], laidByText := true, laidKinds := [.data], laidTests := true, laidLooks := .later }
def FrameFormUptoCardSaid : Prop := Claim7.holds Tryd.pinned (.plain (OpenSpec.upto frameFormSpec)) frameFormUptoCard

/-- THE SECOND FORM's CARD OF 'sluicelaw1.FrameByte'. -/
def frameByteUptoCard : Claim7 := { stood := { row := frameByteUptoRow, standIns := [], harness := (true, "b51b637daf07b1c516b81e392dd3adef9276edd451377095f1386cb4716029b6"), looks := false }, kinds := [], alts := [], laidByText := true, laidKinds := [.data], laidTests := true, laidLooks := .later }
def FrameByteUptoCardSaid : Prop := Claim7.holds Tryd.pinned (.plain (OpenSpec.upto frameByteSpec)) frameByteUptoCard

/-- THE SECOND FORM's CARD OF 'sluicelaw1.FrameBurst'. -/
def frameBurstUptoCard : Claim7 := { stood := { row := frameBurstUptoRow, standIns := [], harness := (true, "b51b637daf07b1c516b81e392dd3adef9276edd451377095f1386cb4716029b6"), looks := false }, kinds := [], alts := [], laidByText := true, laidKinds := [.data], laidTests := true, laidLooks := .later }
def FrameBurstUptoCardSaid : Prop := Claim7.holds Tryd.pinned (.plain (OpenSpec.upto frameBurstSpec)) frameBurstUptoCard

/-- THE SECOND FORM's CARD OF 'sluicelaw1.FrameEnds'. -/
def frameEndsUptoCard : Claim7 := { stood := { row := frameEndsUptoRow, standIns := [], harness := (true, "b51b637daf07b1c516b81e392dd3adef9276edd451377095f1386cb4716029b6"), looks := false }, kinds := [], alts := [], laidByText := true, laidKinds := [.data], laidTests := true, laidLooks := .later }
def FrameEndsUptoCardSaid : Prop := Claim7.holds Tryd.pinned (.plain (OpenSpec.upto frameEndsSpec)) frameEndsUptoCard
end Rows
end Go.Proofs.YtaocddmmgefeoaaDoor
