/- LitTexts, for every input: lit.Rune and lit.Text answer what their reference answers, or neither takes the text (the law's call returns true, and the input reads as it did); with the listed variables tied to the program's text. -/
import Derived.Test.YtgfdfmgocijdgaaGreatDoorRw
import Derived.Test.YtgfdfmgocijdgaaGreatDoorTie
import Derived.Test.YtgfdfmgocijdgaaGreatDoorCards
import Derived.SevenTiedAt
namespace Go.Proofs.YtgfdfmgocijdgaaGreatDoor
open Go

/-- The card of LitTexts. -/
theorem litTextsCard_holds : Rows.LitTextsCardSaid :=
  Claim7.holds_tied_plain_at .later [] [.data, .widerDeep, .pinned] true (true, "2350cd29cbd324c4f921d7c2b1bbeee3fa81e64bafbec002d77022756a6b31b4") false
    litTexts_holds (fun _ h => by cases h) (by kernel_rfl) (fun _ h => by cases h) litTexts_row_tie rfl ⟨rfl, rfl⟩ (by kernel_rfl) rfl
    (fun f fn hf hfn => by
      obtain rfl : f = 3 := Option.some.inj ((show Tryz.prog.funcNamed "indenture/indenturelaw06.LitTexts" = some 3 by kernel_rfl).symm.trans hf) |>.symm
      obtain rfl : fn = Tryz.f3 := (Option.some.inj (Tryz.func3.symm.trans hfn)).symm
      exact ⟨by kernel_rfl, fun j t ht => by
        rw [Tryz.params3] at ht
        have hm : t ∈ [9] := by simpa using Array.mem_of_getElem? ht
        have hall : ([9].all fun u => !Tryz.prog.wantsStandIn u) = true := by kernel_rfl
        exact (show Tryz.prog.wantsStandIn t = false by simpa using List.all_eq_true.1 hall t hm)⟩)
    (by kernel_rfl)
#print axioms litTextsCard_holds
end Go.Proofs.YtgfdfmgocijdgaaGreatDoor
