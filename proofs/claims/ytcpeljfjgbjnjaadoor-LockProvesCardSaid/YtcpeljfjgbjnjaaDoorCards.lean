/-
  DERIVED. GIVEN WITH THE SEED: THE CARDS: each row of YtcpeljfjgbjnjaaDoorRows.lean that lists a variable, with what it lists TIED to the program's text (the seventh form; the later family's looks); each row that meets fmt, with fmt's text TOLD by the authors' own Lean function (tested against real Go, not proved from fmt's source: count such statements apart). THE CARD IS WHAT COUNTS. Prove the row's statement (the work); the ties are given (YtcpeljfjgbjnjaaDoorTie.lean); close each card by the builder's one call (the guide's Derived/Test/ToyasCard.lean, 'card_holds'). Laid BY PROGRAM, IN A SANDBOX (cutbox-door.mjs). By AI agents, Wed Nov 11 2026. No macro, syntax, notation, axiom, sorry.
-/
import Derived.Test.YtcpeljfjgbjnjaaDoorRows
import GoSem.ClaimSeven
namespace Go.Proofs.YtcpeljfjgbjnjaaDoor
namespace Rows

/-- THE TIED CARD OF 'demurrallaw06.LockOpens'. -/
def lockOpensCard : Claim7 := { stood := { row := lockOpensRow, standIns := [], harness := (true, "2bb4e4a36434d290a5198761108b44e65f6377479e3bff053f9cc90d130372c4"), looks := false }, kinds := [], alts := [], laidByText := true, laidKinds := [.data], laidTests := true, laidLooks := .later }
def LockOpensCardSaid : Prop := Claim7.holds Tryd.pinned (.plain (OpenSpec.ofChange lockOpensSpec)) lockOpensCard

/-- THE TIED CARD OF 'demurrallaw07.WireBack'. -/
def wireBackCard : Claim7 := { stood := { row := wireBackRow, standIns := [], harness := (true, "2bb4e4a36434d290a5198761108b44e65f6377479e3bff053f9cc90d130372c4"), looks := false }, kinds := [], alts := [], laidByText := true, laidKinds := [.data, .pinned], laidTests := true, laidLooks := .later }
def WireBackCardSaid : Prop := Claim7.holds Tryd.pinned (.plain (OpenSpec.ofChange wireBackSpec)) wireBackCard

/-- THE TIED CARD OF 'demurrallaw06.LockTells'. -/
def lockTellsCard : Claim7 := { stood := { row := lockTellsRow, standIns := [], harness := (true, "2bb4e4a36434d290a5198761108b44e65f6377479e3bff053f9cc90d130372c4"), looks := false }, kinds := [], alts := [], laidByText := true, laidKinds := [.data], laidTests := true, laidLooks := .later }
def LockTellsCardSaid : Prop := Claim7.holds Tryd.pinned (.plain (OpenSpec.ofChange lockTellsSpec)) lockTellsCard

/-- THE TIED CARD OF 'demurrallaw06.LockProves'. -/
def lockProvesCard : Claim7 := { stood := { row := lockProvesRow, standIns := [], harness := (true, "2bb4e4a36434d290a5198761108b44e65f6377479e3bff053f9cc90d130372c4"), looks := false }, kinds := [], alts := [], laidByText := true, laidKinds := [.data], laidTests := true, laidLooks := .later }
def LockProvesCardSaid : Prop := Claim7.holds Tryd.pinned (.plain (OpenSpec.ofChange lockProvesSpec)) lockProvesCard

/-- THE TIED CARD OF 'demurrallaw14.RevealCovers'. -/
def revealCoversCard : Claim7 := { stood := { row := revealCoversRow, standIns := [], harness := (true, "2bb4e4a36434d290a5198761108b44e65f6377479e3bff053f9cc90d130372c4"), looks := false }, kinds := [], alts := [], laidByText := true, laidKinds := [.data], laidTests := true, laidLooks := .later }
def RevealCoversCardSaid : Prop := Claim7.holds Tryd.pinned (.plain (OpenSpec.ofChange revealCoversSpec)) revealCoversCard

/-- THE TIED CARD OF 'demurrallaw11.HelloTells'. -/
def helloTellsCard : Claim7 := { stood := { row := helloTellsRow, standIns := [], harness := (true, "2bb4e4a36434d290a5198761108b44e65f6377479e3bff053f9cc90d130372c4"), looks := false }, kinds := [], alts := [], laidByText := true, laidKinds := [.data], laidTests := true, laidLooks := .later }
def HelloTellsCardSaid : Prop := Claim7.holds Tryd.pinned (.plain (OpenSpec.ofChange helloTellsSpec)) helloTellsCard

/-- THE TIED CARD OF 'demurrallaw11.HelloAnswers'. -/
def helloAnswersCard : Claim7 := { stood := { row := helloAnswersRow, standIns := [], harness := (true, "2bb4e4a36434d290a5198761108b44e65f6377479e3bff053f9cc90d130372c4"), looks := false }, kinds := [], alts := [], laidByText := true, laidKinds := [.data], laidTests := true, laidLooks := .later }
def HelloAnswersCardSaid : Prop := Claim7.holds Tryd.pinned (.plain (OpenSpec.ofChange helloAnswersSpec)) helloAnswersCard

/-- THE TIED CARD OF 'demurrallaw11.HelloAgrees'. -/
def helloAgreesCard : Claim7 := { stood := { row := helloAgreesRow, standIns := [], harness := (true, "2bb4e4a36434d290a5198761108b44e65f6377479e3bff053f9cc90d130372c4"), looks := false }, kinds := [], alts := [], laidByText := true, laidKinds := [.data], laidTests := true, laidLooks := .later }
def HelloAgreesCardSaid : Prop := Claim7.holds Tryd.pinned (.plain (OpenSpec.ofChange helloAgreesSpec)) helloAgreesCard

/-- THE TIED CARD OF 'demurrallaw08.FrameGets'. -/
def frameGetsCard : Claim7 := { stood := { row := frameGetsRow, standIns := [], harness := (true, "2bb4e4a36434d290a5198761108b44e65f6377479e3bff053f9cc90d130372c4"), looks := false }, kinds := [], alts := [], laidByText := true, laidKinds := [.data, .pinned], laidTests := true, laidLooks := .later }
def FrameGetsCardSaid : Prop := Claim7.holds Tryd.pinned (.plain (OpenSpec.ofChange frameGetsSpec)) frameGetsCard

/-- THE TIED CARD OF 'demurrallaw08.FrameBack'. -/
def frameBackCard : Claim7 := { stood := { row := frameBackRow, standIns := [], harness := (true, "2bb4e4a36434d290a5198761108b44e65f6377479e3bff053f9cc90d130372c4"), looks := false }, kinds := [], alts := [], laidByText := true, laidKinds := [.data, .pinned], laidTests := true, laidLooks := .later }
def FrameBackCardSaid : Prop := Claim7.holds Tryd.pinned (.plain (OpenSpec.ofChange frameBackSpec)) frameBackCard

/-- THE TIED CARD OF 'demurrallaw23.JudgeViews'. -/
def judgeViewsCard : Claim7 := { stood := { row := judgeViewsRow, standIns := [], harness := (true, "2bb4e4a36434d290a5198761108b44e65f6377479e3bff053f9cc90d130372c4"), looks := false }, kinds := [], alts := [], laidByText := true, laidKinds := [.data, .pinned], laidTests := true, laidLooks := .later }
def JudgeViewsCardSaid : Prop := Claim7.holds Tryd.pinned (.plain (OpenSpec.ofChange judgeViewsSpec)) judgeViewsCard

/-- THE TIED CARD OF 'demurrallaw20.TermOnce'. -/
def termOnceCard : Claim7 := { stood := { row := termOnceRow, standIns := [], harness := (true, "2bb4e4a36434d290a5198761108b44e65f6377479e3bff053f9cc90d130372c4"), looks := false }, kinds := [], alts := [], laidByText := true, laidKinds := [.data], laidTests := true, laidLooks := .later }
def TermOnceCardSaid : Prop := Claim7.holds Tryd.pinned (.plain (OpenSpec.ofChange termOnceSpec)) termOnceCard

/-- THE SECOND FORM's CARD OF 'demurrallaw06.LockOpens'. -/
def lockOpensUptoCard : Claim7 := { stood := { row := lockOpensUptoRow, standIns := [], harness := (true, "2bb4e4a36434d290a5198761108b44e65f6377479e3bff053f9cc90d130372c4"), looks := false }, kinds := [], alts := [], laidByText := true, laidKinds := [.data], laidTests := true, laidLooks := .later }
def LockOpensUptoCardSaid : Prop := Claim7.holds Tryd.pinned (.plain (OpenSpec.upto lockOpensSpec)) lockOpensUptoCard

/-- THE SECOND FORM's CARD OF 'demurrallaw07.WireBack'. -/
def wireBackUptoCard : Claim7 := { stood := { row := wireBackUptoRow, standIns := [], harness := (true, "2bb4e4a36434d290a5198761108b44e65f6377479e3bff053f9cc90d130372c4"), looks := false }, kinds := [], alts := [], laidByText := true, laidKinds := [.data, .pinned], laidTests := true, laidLooks := .later }
def WireBackUptoCardSaid : Prop := Claim7.holds Tryd.pinned (.plain (OpenSpec.upto wireBackSpec)) wireBackUptoCard

/-- THE SECOND FORM's CARD OF 'demurrallaw06.LockTells'. -/
def lockTellsUptoCard : Claim7 := { stood := { row := lockTellsUptoRow, standIns := [], harness := (true, "2bb4e4a36434d290a5198761108b44e65f6377479e3bff053f9cc90d130372c4"), looks := false }, kinds := [], alts := [], laidByText := true, laidKinds := [.data], laidTests := true, laidLooks := .later }
def LockTellsUptoCardSaid : Prop := Claim7.holds Tryd.pinned (.plain (OpenSpec.upto lockTellsSpec)) lockTellsUptoCard

/-- THE SECOND FORM's CARD OF 'demurrallaw06.LockProves'. -/
def lockProvesUptoCard : Claim7 := { stood := { row := lockProvesUptoRow, standIns := [], harness := (true, "2bb4e4a36434d290a5198761108b44e65f6377479e3bff053f9cc90d130372c4"), looks := false }, kinds := [], alts := [], laidByText := true, laidKinds := [.data], laidTests := true, laidLooks := .later }
def LockProvesUptoCardSaid : Prop := Claim7.holds Tryd.pinned (.plain (OpenSpec.upto lockProvesSpec)) lockProvesUptoCard

/-- THE SECOND FORM's CARD OF 'demurrallaw14.RevealCovers'. -/
def revealCoversUptoCard : Claim7 := { stood := { row := revealCoversUptoRow, standIns := [], harness := (true, "2bb4e4a36434d290a5198761108b44e65f6377479e3bff053f9cc90d130372c4"), looks := false }, kinds := [], alts := [], laidByText := true, laidKinds := [.data], laidTests := true, laidLooks := .later }
def RevealCoversUptoCardSaid : Prop := Claim7.holds Tryd.pinned (.plain (OpenSpec.upto revealCoversSpec)) revealCoversUptoCard

/-- THE SECOND FORM's CARD OF 'demurrallaw11.HelloTells'. -/
def helloTellsUptoCard : Claim7 := { stood := { row := helloTellsUptoRow, standIns := [], harness := (true, "2bb4e4a36434d290a5198761108b44e65f6377479e3bff053f9cc90d130372c4"), looks := false }, kinds := [], alts := [], laidByText := true, laidKinds := [.data], laidTests := true, laidLooks := .later }
def HelloTellsUptoCardSaid : Prop := Claim7.holds Tryd.pinned (.plain (OpenSpec.upto helloTellsSpec)) helloTellsUptoCard

/-- THE SECOND FORM's CARD OF 'demurrallaw11.HelloAnswers'. -/
def helloAnswersUptoCard : Claim7 := { stood := { row := helloAnswersUptoRow, standIns := [], harness := (true, "2bb4e4a36434d290a5198761108b44e65f6377479e3bff053f9cc90d130372c4"), looks := false }, kinds := [], alts := [], laidByText := true, laidKinds := [.data], laidTests := true, laidLooks := .later }
def HelloAnswersUptoCardSaid : Prop := Claim7.holds Tryd.pinned (.plain (OpenSpec.upto helloAnswersSpec)) helloAnswersUptoCard

/-- THE SECOND FORM's CARD OF 'demurrallaw11.HelloAgrees'. -/
def helloAgreesUptoCard : Claim7 := { stood := { row := helloAgreesUptoRow, standIns := [], harness := (true, "2bb4e4a36434d290a5198761108b44e65f6377479e3bff053f9cc90d130372c4"), looks := false }, kinds := [], alts := [], laidByText := true, laidKinds := [.data], laidTests := true, laidLooks := .later }
def HelloAgreesUptoCardSaid : Prop := Claim7.holds Tryd.pinned (.plain (OpenSpec.upto helloAgreesSpec)) helloAgreesUptoCard

/-- THE SECOND FORM's CARD OF 'demurrallaw08.FrameGets'. -/
def frameGetsUptoCard : Claim7 := { stood := { row := frameGetsUptoRow, standIns := [], harness := (true, "2bb4e4a36434d290a5198761108b44e65f6377479e3bff053f9cc90d130372c4"), looks := false }, kinds := [], alts := [], laidByText := true, laidKinds := [.data, .pinned], laidTests := true, laidLooks := .later }
def FrameGetsUptoCardSaid : Prop := Claim7.holds Tryd.pinned (.plain (OpenSpec.upto frameGetsSpec)) frameGetsUptoCard

/-- THE SECOND FORM's CARD OF 'demurrallaw08.FrameBack'. -/
def frameBackUptoCard : Claim7 := { stood := { row := frameBackUptoRow, standIns := [], harness := (true, "2bb4e4a36434d290a5198761108b44e65f6377479e3bff053f9cc90d130372c4"), looks := false }, kinds := [], alts := [], laidByText := true, laidKinds := [.data, .pinned], laidTests := true, laidLooks := .later }
def FrameBackUptoCardSaid : Prop := Claim7.holds Tryd.pinned (.plain (OpenSpec.upto frameBackSpec)) frameBackUptoCard

/-- THE SECOND FORM's CARD OF 'demurrallaw23.JudgeViews'. -/
def judgeViewsUptoCard : Claim7 := { stood := { row := judgeViewsUptoRow, standIns := [], harness := (true, "2bb4e4a36434d290a5198761108b44e65f6377479e3bff053f9cc90d130372c4"), looks := false }, kinds := [], alts := [], laidByText := true, laidKinds := [.data, .pinned], laidTests := true, laidLooks := .later }
def JudgeViewsUptoCardSaid : Prop := Claim7.holds Tryd.pinned (.plain (OpenSpec.upto judgeViewsSpec)) judgeViewsUptoCard

/-- THE SECOND FORM's CARD OF 'demurrallaw20.TermOnce'. -/
def termOnceUptoCard : Claim7 := { stood := { row := termOnceUptoRow, standIns := [], harness := (true, "2bb4e4a36434d290a5198761108b44e65f6377479e3bff053f9cc90d130372c4"), looks := false }, kinds := [], alts := [], laidByText := true, laidKinds := [.data], laidTests := true, laidLooks := .later }
def TermOnceUptoCardSaid : Prop := Claim7.holds Tryd.pinned (.plain (OpenSpec.upto termOnceSpec)) termOnceUptoCard
end Rows
end Go.Proofs.YtcpeljfjgbjnjaaDoor
