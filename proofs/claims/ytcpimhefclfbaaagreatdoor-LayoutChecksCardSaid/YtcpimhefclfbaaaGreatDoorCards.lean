/-
  DERIVED. GIVEN WITH THE SEED: THE CARDS: each row of YtcpimhefclfbaaaGreatDoorRows.lean that lists a variable, with what it lists TIED to the program's text (the seventh form; the later family's looks); each row that meets fmt, with fmt's text TOLD by the authors' own Lean function (tested against real Go, not proved from fmt's source: count such statements apart). THE CARD IS WHAT COUNTS. Prove the row's statement (the work); the ties are given (YtcpimhefclfbaaaGreatDoorTie.lean); close each card by the builder's one call (the guide's Derived/Test/ToyasCard.lean, 'card_holds'). Laid BY PROGRAM, IN A SANDBOX (cutbox-door.mjs). By AI agents, Wed Nov 11 2026. No macro, syntax, notation, axiom, sorry.
-/
import Derived.Test.YtcpimhefclfbaaaGreatDoorRows
import GoSem.ClaimSeven
namespace Go.Proofs.YtcpimhefclfbaaaGreatDoor
namespace Rows

/-- THE TIED CARD OF 'hypostylelaw18.LayoutCuts'. -/
def layoutCutsCard : Claim7 := { stood := { row := layoutCutsRow, standIns := [], harness := (true, "6de382e2001ef903d74bfac1b3e6d33a272b3340dade3364ea45fc8077ad8ad6"), looks := false }, kinds := [], alts := [], laidByText := true, laidKinds := [.sentinel], laidTests := true, laidLooks := .later }
def LayoutCutsCardSaid : Prop := Claim7.holds Tryz.pinned (.plain (OpenSpec.ofChange layoutCutsSpec)) layoutCutsCard

/-- THE TIED CARD OF 'hypostylelaw18.LayoutChecks'. -/
def layoutChecksCard : Claim7 := { stood := { row := layoutChecksRow, standIns := [], harness := (true, "6de382e2001ef903d74bfac1b3e6d33a272b3340dade3364ea45fc8077ad8ad6"), looks := false }, kinds := [], alts := [], laidByText := true, laidKinds := [.sentinel], laidTests := true, laidLooks := .later }
def LayoutChecksCardSaid : Prop := Claim7.holds Tryz.pinned (.plain (OpenSpec.ofChange layoutChecksSpec)) layoutChecksCard

/-- THE TIED CARD OF 'hypostylelaw18.LayoutOver'. -/
def layoutOverCard : Claim7 := { stood := { row := layoutOverRow, standIns := [], harness := (true, "6de382e2001ef903d74bfac1b3e6d33a272b3340dade3364ea45fc8077ad8ad6"), looks := false }, kinds := [], alts := [], laidByText := true, laidKinds := [.sentinel], laidTests := true, laidLooks := .later }
def LayoutOverCardSaid : Prop := Claim7.holds Tryz.pinned (.plain (OpenSpec.ofChange layoutOverSpec)) layoutOverCard

/-- THE TIED CARD OF 'hypostylelaw18.LayoutAll'. -/
def layoutAllCard : Claim7 := { stood := { row := layoutAllRow, standIns := [], harness := (true, "6de382e2001ef903d74bfac1b3e6d33a272b3340dade3364ea45fc8077ad8ad6"), looks := false }, kinds := [], alts := [], laidByText := true, laidKinds := [.sentinel], laidTests := true, laidLooks := .later }
def LayoutAllCardSaid : Prop := Claim7.holds Tryz.pinned (.plain (OpenSpec.ofChange layoutAllSpec)) layoutAllCard

/-- THE TIED CARD OF 'hypostylelaw18.LayoutParts'. -/
def layoutPartsCard : Claim7 := { stood := { row := layoutPartsRow, standIns := [], harness := (true, "6de382e2001ef903d74bfac1b3e6d33a272b3340dade3364ea45fc8077ad8ad6"), looks := false }, kinds := [], alts := [], laidByText := true, laidKinds := [.sentinel], laidTests := true, laidLooks := .later }
def LayoutPartsCardSaid : Prop := Claim7.holds Tryz.pinned (.plain (OpenSpec.ofChange layoutPartsSpec)) layoutPartsCard

/-- THE SECOND FORM's CARD OF 'hypostylelaw18.LayoutCuts'. -/
def layoutCutsUptoCard : Claim7 := { stood := { row := layoutCutsUptoRow, standIns := [], harness := (true, "6de382e2001ef903d74bfac1b3e6d33a272b3340dade3364ea45fc8077ad8ad6"), looks := false }, kinds := [], alts := [], laidByText := true, laidKinds := [.sentinel], laidTests := true, laidLooks := .later }
def LayoutCutsUptoCardSaid : Prop := Claim7.holds Tryz.pinned (.plain (OpenSpec.upto layoutCutsSpec)) layoutCutsUptoCard

/-- THE SECOND FORM's CARD OF 'hypostylelaw18.LayoutChecks'. -/
def layoutChecksUptoCard : Claim7 := { stood := { row := layoutChecksUptoRow, standIns := [], harness := (true, "6de382e2001ef903d74bfac1b3e6d33a272b3340dade3364ea45fc8077ad8ad6"), looks := false }, kinds := [], alts := [], laidByText := true, laidKinds := [.sentinel], laidTests := true, laidLooks := .later }
def LayoutChecksUptoCardSaid : Prop := Claim7.holds Tryz.pinned (.plain (OpenSpec.upto layoutChecksSpec)) layoutChecksUptoCard

/-- THE SECOND FORM's CARD OF 'hypostylelaw18.LayoutOver'. -/
def layoutOverUptoCard : Claim7 := { stood := { row := layoutOverUptoRow, standIns := [], harness := (true, "6de382e2001ef903d74bfac1b3e6d33a272b3340dade3364ea45fc8077ad8ad6"), looks := false }, kinds := [], alts := [], laidByText := true, laidKinds := [.sentinel], laidTests := true, laidLooks := .later }
def LayoutOverUptoCardSaid : Prop := Claim7.holds Tryz.pinned (.plain (OpenSpec.upto layoutOverSpec)) layoutOverUptoCard

/-- THE SECOND FORM's CARD OF 'hypostylelaw18.LayoutAll'. -/
def layoutAllUptoCard : Claim7 := { stood := { row := layoutAllUptoRow, standIns := [], harness := (true, "6de382e2001ef903d74bfac1b3e6d33a272b3340dade3364ea45fc8077ad8ad6"), looks := false }, kinds := [], alts := [], laidByText := true, laidKinds := [.sentinel], laidTests := true, laidLooks := .later }
def LayoutAllUptoCardSaid : Prop := Claim7.holds Tryz.pinned (.plain (OpenSpec.upto layoutAllSpec)) layoutAllUptoCard

/-- THE SECOND FORM's CARD OF 'hypostylelaw18.LayoutParts'. -/
def layoutPartsUptoCard : Claim7 := { stood := { row := layoutPartsUptoRow, standIns := [], harness := (true, "6de382e2001ef903d74bfac1b3e6d33a272b3340dade3364ea45fc8077ad8ad6"), looks := false }, kinds := [], alts := [], laidByText := true, laidKinds := [.sentinel], laidTests := true, laidLooks := .later }
def LayoutPartsUptoCardSaid : Prop := Claim7.holds Tryz.pinned (.plain (OpenSpec.upto layoutPartsSpec)) layoutPartsUptoCard
end Rows
end Go.Proofs.YtcpimhefclfbaaaGreatDoor
