/- Plain laws, without program or memory: what the reference says of letters and texts is what lit says. -/
import Derived.Test.YtgfdfmgocijdgaaGreatDoorPuF
import Derived.Test.YtgfdfmgocijdgaaGreatDoorWkH
namespace Go.Proofs.YtgfdfmgocijdgaaGreatDoor
open Go.RowKit Go.Lib Go.Shelf Go.Proofs.YtgfdfmgocijdgaaGreatDoorW.PrintWords Go.Proofs.YtgfdfmgocijdgaaGreatDoorW.PrintLast Go.Proofs.YtgfdfmgocijdgaaGreatDoorW.PrintMore PLitTexts
theorem ite_some {α : Type} (p : Prop) [Decidable p] (a b : α) : (if p then some a else some b) = some (if p then a else b) := by split <;> rfl
theorem rune_f (s : ByteArray) (hs : s.size ≤ 4010) (hc : chkE s = 0) : ∃ k x is, indentureref06_Rune.f k s = some (x, is) ∧ runeS s = if is = true then (x, 0) else (0, 5) := by
  have hg := good_of_chk s hc
  unfold runeS indentureref06_Rune.f
  rw [if_neg (fun h => h hc)]
  by_cases h2 : s.size < 2
  · refine ⟨1, 0, false, ?_, ?_⟩
    · rw [if_pos (by omega)]; rfl
    · rw [if_pos h2]; rfl
  have e0 : bt s 0 = (bN s.data.toList 0 : Int) := bt_bN s 0 (by omega)
  by_cases h3 : bN s.data.toList 0 = 39
  · have hz := (hg.tail (by rw [len_list]; omega) (by omega)).z
    have hsz : (s.extract 1 s.size).size = s.size - 1 := by simp
    have ho := one_f (s.extract 1 s.size) 39 (.inl rfl) (by omega) (by rw [drop_list]; rw [List.length_drop, len_list] at hz; rw [hsz]; exact hz) 45 (by omega)
    have ho' : indentureref06_One.f 45 (s.extract 1 s.size) 39 = some (oneS (s.data.toList.drop 1) 39) := by rw [drop_list] at ho; exact ho
    obtain ⟨m, hm, hml⟩ := one_le (s.data.toList.drop 1) 39
    rw [List.length_drop, len_list] at hml
    rw [if_neg h2, if_neg (fun h => h h3)]
    refine ⟨46, (if (oneS (s.data.toList.drop 1) 39).2.2 = 0 then 0 else if s.data.toList.drop (1 + (oneS (s.data.toList.drop 1) 39).2.2).toNat = [39] then (oneS (s.data.toList.drop 1) 39).1 else 0), (if (oneS (s.data.toList.drop 1) 39).2.2 = 0 then false else if s.data.toList.drop (1 + (oneS (s.data.toList.drop 1) 39).2.2).toNat = [39] then true else false), ?_, ?_⟩
    · rw [if_neg (by omega), if_pos (by omega), e0]
      simp only [indentureref06_Rune.j0]
      rw [if_neg (by rw [bne_iff_ne]; omega), if_pos (by omega), ho', Option.bind_some]
      generalize oneS (s.data.toList.drop 1) 39 = o at *
      obtain ⟨r, b, n⟩ := o
      simp only at hm ⊢
      subst hm
      by_cases h4 : (m : Int) = 0
      · rw [if_pos h4, if_pos h4, if_pos h4]
      · have e1 : wrap64 (1 + (m : Int)) = 1 + (m : Int) := w64 _ (by omega) (by omega)
        rw [if_neg h4, if_neg h4, if_neg h4, e1, if_pos (by omega), if_pos (by omega), Lib.toList_data, drop_list]
        split <;> rfl
    · generalize oneS (s.data.toList.drop 1) 39 = o at *
      obtain ⟨r, b, n⟩ := o
      simp only
      by_cases h4 : n = 0
      · rw [if_pos h4, if_pos h4, if_pos h4]; rfl
      · rw [if_neg h4, if_neg h4, if_neg h4]
        by_cases h5 : List.drop (1 + n).toNat s.data.toList = [39]
        · rw [if_pos h5, if_pos h5, if_pos h5, if_pos rfl]
        · rw [if_neg h5, if_neg h5, if_neg h5, if_neg (by simp)]
  · refine ⟨1, 0, false, ?_, ?_⟩
    · rw [if_neg (by omega), if_pos (by omega), e0]
      simp only [indentureref06_Rune.j0]
      rw [if_pos (by rw [bne_iff_ne]; omega)]
    · rw [if_neg h2, if_pos h3]; rfl
end Go.Proofs.YtgfdfmgocijdgaaGreatDoor
