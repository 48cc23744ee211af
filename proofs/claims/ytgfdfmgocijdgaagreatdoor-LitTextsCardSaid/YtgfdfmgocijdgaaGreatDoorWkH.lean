/- The law LitTexts, walked, over what is to be shown of plain functions. -/
import Derived.Test.YtgfdfmgocijdgaaGreatDoorWkG
import Derived.Test.YtgfdfmgocijdgaaGreatDoorPRx6
import Derived.Test.YtgfdfmgocijdgaaGreatDoorPRx7
namespace Go.Proofs.YtgfdfmgocijdgaaGreatDoor
open Go.RowKit Go.Lib Go.Shelf Go.Proofs.YtgfdfmgocijdgaaGreatDoorW.PrintWords Go.Proofs.YtgfdfmgocijdgaaGreatDoorW.PrintLast Go.Proofs.YtgfdfmgocijdgaaGreatDoorW.PrintMore PLitTexts
/-- What is to be shown of plain functions alone. -/
structure PureLit (s : ByteArray) : Prop where
  bad : ∃ k, indentureref06_Bad.f k s = some (chkE s)
  rune : chkE s = 0 → ∃ k x is, indentureref06_Rune.f k s = some (x, is) ∧ runeS s = if is = true then (x, 0) else (0, 5)
  text : chkE s = 0 → ∃ k y has, indentureref06_Text.f k s = some (y, has) ∧ textS s = if has = true then (y, 0) else (⟨#[]⟩, 5)
def TruePost (W : World) (e : Ending) (w' : World) : Prop := e = .returned (.bool true) ∧ Below W.heap.size W w'
theorem runeS_bad (s : ByteArray) (h : chkE s ≠ 0) : runeS s = (0, chkE s) := by unfold runeS; rw [if_pos h]
theorem textS_bad (s : ByteArray) (h : chkE s ≠ 0) : textS s = (⟨#[]⟩, chkE s) := by unfold textS; rw [if_pos h]
attribute [local go_sem] max2_int min2_int max_two min_two
set_option maxRecDepth 1000000 in
set_option maxHeartbeats 4000000 in
theorem law_short (a : ByteArray) (hs : a.size ≤ 4010) (hp : PureLit a) (w : World) (hG : GW w) : Calls Tryz.prog 3 #[.string a] w (TruePost w) := by
  obtain ⟨s, hsa⟩ : ∃ s, s = a := ⟨_, rfl⟩
  have m1 : mn (s.size : Int) 4010 = s.size := by subst hsa; unfold mn; omega
  subst hsa
  have hR := fun W hW => rune_any s hs W hW
  have hT := fun W hW => text_any s hs W hW
  obtain ⟨kb, hb⟩ := hp.bad
  have hB := fun W => indentureref06_Bad.calls kb s _ W hb
  unfold RunePost at hR
  unfold TextPost at hT
  have hv := chk_vals s
  by_cases h0 : chkE s = 0
  · obtain ⟨k1, x, is, hr, hrs⟩ := hp.rune h0
    obtain ⟨k2, y, has, ht, hts⟩ := hp.text h0
    have hR' := fun W => indentureref06_Rune.calls k1 s x is W hr
    have hT' := fun W => indentureref06_Text.calls k2 s y has W ht
    rw [h0] at hB
    rw [hrs] at hR
    rw [hts] at hT
    have yy : (y.toList == y.toList) = true := by simp
    clear hr ht hrs hts hb hp h0 hv
    cases is <;> cases has <;> simp only [if_true, if_false, Bool.false_eq_true] at hR hT
    all_goals
      go_enter Tryz.func3, Tryz.ntmps3
      go_wp2_with (first | (go_at_call 4; (with_reducible refine (hR _ hG).mono ?_); rintro e w1 ⟨rfl, hb1⟩) | (go_at_call 5; (with_reducible refine (hT _ (hG.below hb1)).mono ?_); rintro e w2 ⟨rfl, hb2⟩; have j2 := Lib.hid (below_step hb1 hb2); clear hb2) | (go_at_call 6; (with_reducible refine (hB _).mono ?_); rintro e w3 ⟨rfl, nd, rfl⟩) | (go_at_call 7; (with_reducible refine (alive_any (hG.below (by first | exact j4.out | exact pw_below_drewN j2.out _))).mono ?_); rintro e w7 ⟨rfl, hb7⟩; have j7 := Lib.hid (below_step (by first | exact j4.out | exact pw_below_drewN j2.out _) hb7); clear hb7) | (go_at_call 8; (with_reducible refine (hR' _).mono ?_); rintro e w4 ⟨rfl, hb4⟩; have j3 := Lib.hid (below_step (pw_below_drewN j2.out _) hb4); clear hb4) | (go_at_call 9; (with_reducible refine (hT' _).mono ?_); rintro e w5 ⟨rfl, hb5⟩; have j4 := Lib.hid (below_step j3.out hb5); clear hb5))
      go_ret
      exact ⟨rfl, j7.out⟩
  · rw [runeS_bad s h0] at hR
    rw [textS_bad s h0] at hT
    have f0 : (chkE s != 0) = true := by rw [bne_iff_ne]; exact h0
    clear hp hb hv h0
    generalize chkE s = ce at *
    go_enter Tryz.func3, Tryz.ntmps3
    go_wp2_with (first | (go_at_call 4; (with_reducible refine (hR _ hG).mono ?_); rintro e w1 ⟨rfl, hb1⟩) | (go_at_call 5; (with_reducible refine (hT _ (hG.below hb1)).mono ?_); rintro e w2 ⟨rfl, hb2⟩; have j2 := Lib.hid (below_step hb1 hb2); clear hb2) | (go_at_call 6; (with_reducible refine (hB _).mono ?_); rintro e w3 ⟨rfl, nd, rfl⟩) | (go_at_call 7; (with_reducible refine (alive_any (hG.below (by first | exact j4.out | exact pw_below_drewN j2.out _))).mono ?_); rintro e w7 ⟨rfl, hb7⟩; have j7 := Lib.hid (below_step (by first | exact j4.out | exact pw_below_drewN j2.out _) hb7); clear hb7) | (go_at_call 8; (with_reducible refine (hR' _).mono ?_); rintro e w4 ⟨rfl, hb4⟩; have j3 := Lib.hid (below_step (pw_below_drewN j2.out _) hb4); clear hb4) | (go_at_call 9; (with_reducible refine (hT' _).mono ?_); rintro e w5 ⟨rfl, hb5⟩; have j4 := Lib.hid (below_step j3.out hb5); clear hb5))
    go_ret
    exact ⟨rfl, j7.out⟩
attribute [local go_sem] max2_int min2_int max_two min_two
set_option maxRecDepth 1000000 in
set_option maxHeartbeats 4000000 in
theorem law_long (a : ByteArray) (ha : 4010 < a.size) (hp : PureLit (a.extract 0 4010)) (w : World) (hG : GW w) : Calls Tryz.prog 3 #[.string a] w (TruePost w) := by
  have m1 : mn (a.size : Int) 4010 = 4010 := by unfold mn; omega
  have m2 : 4010 ≤ a.size := by omega
  have hs : (a.extract 0 4010).size ≤ 4010 := by simp; omega
  generalize hsx : a.extract 0 4010 = s at *
  have hR := fun W hW => rune_any s hs W hW
  have hT := fun W hW => text_any s hs W hW
  obtain ⟨kb, hb⟩ := hp.bad
  have hB := fun W => indentureref06_Bad.calls kb s _ W hb
  unfold RunePost at hR
  unfold TextPost at hT
  have hv := chk_vals s
  by_cases h0 : chkE s = 0
  · obtain ⟨k1, x, is, hr, hrs⟩ := hp.rune h0
    obtain ⟨k2, y, has, ht, hts⟩ := hp.text h0
    have hR' := fun W => indentureref06_Rune.calls k1 s x is W hr
    have hT' := fun W => indentureref06_Text.calls k2 s y has W ht
    rw [h0] at hB
    rw [hrs] at hR
    rw [hts] at hT
    have yy : (y.toList == y.toList) = true := by simp
    clear hr ht hrs hts hb hp h0 hv
    subst hsx
    cases is <;> cases has <;> simp only [if_true, if_false, Bool.false_eq_true] at hR hT
    all_goals
      go_enter Tryz.func3, Tryz.ntmps3
      go_wp2_with (first | (go_at_call 4; (with_reducible refine (hR _ hG).mono ?_); rintro e w1 ⟨rfl, hb1⟩) | (go_at_call 5; (with_reducible refine (hT _ (hG.below hb1)).mono ?_); rintro e w2 ⟨rfl, hb2⟩; have j2 := Lib.hid (below_step hb1 hb2); clear hb2) | (go_at_call 6; (with_reducible refine (hB _).mono ?_); rintro e w3 ⟨rfl, nd, rfl⟩) | (go_at_call 7; (with_reducible refine (alive_any (hG.below (by first | exact j4.out | exact pw_below_drewN j2.out _))).mono ?_); rintro e w7 ⟨rfl, hb7⟩; have j7 := Lib.hid (below_step (by first | exact j4.out | exact pw_below_drewN j2.out _) hb7); clear hb7) | (go_at_call 8; (with_reducible refine (hR' _).mono ?_); rintro e w4 ⟨rfl, hb4⟩; have j3 := Lib.hid (below_step (pw_below_drewN j2.out _) hb4); clear hb4) | (go_at_call 9; (with_reducible refine (hT' _).mono ?_); rintro e w5 ⟨rfl, hb5⟩; have j4 := Lib.hid (below_step j3.out hb5); clear hb5))
      go_ret
      exact ⟨rfl, j7.out⟩
  · rw [runeS_bad s h0] at hR
    rw [textS_bad s h0] at hT
    have f0 : (chkE s != 0) = true := by rw [bne_iff_ne]; exact h0
    clear hp hb hv h0
    generalize chkE s = ce at *
    subst hsx
    go_enter Tryz.func3, Tryz.ntmps3
    go_wp2_with (first | (go_at_call 4; (with_reducible refine (hR _ hG).mono ?_); rintro e w1 ⟨rfl, hb1⟩) | (go_at_call 5; (with_reducible refine (hT _ (hG.below hb1)).mono ?_); rintro e w2 ⟨rfl, hb2⟩; have j2 := Lib.hid (below_step hb1 hb2); clear hb2) | (go_at_call 6; (with_reducible refine (hB _).mono ?_); rintro e w3 ⟨rfl, nd, rfl⟩) | (go_at_call 7; (with_reducible refine (alive_any (hG.below (by first | exact j4.out | exact pw_below_drewN j2.out _))).mono ?_); rintro e w7 ⟨rfl, hb7⟩; have j7 := Lib.hid (below_step (by first | exact j4.out | exact pw_below_drewN j2.out _) hb7); clear hb7) | (go_at_call 8; (with_reducible refine (hR' _).mono ?_); rintro e w4 ⟨rfl, hb4⟩; have j3 := Lib.hid (below_step (pw_below_drewN j2.out _) hb4); clear hb4) | (go_at_call 9; (with_reducible refine (hT' _).mono ?_); rintro e w5 ⟨rfl, hb5⟩; have j4 := Lib.hid (below_step j3.out hb5); clear hb5))
    go_ret
    exact ⟨rfl, j7.out⟩
end Go.Proofs.YtgfdfmgocijdgaaGreatDoor
