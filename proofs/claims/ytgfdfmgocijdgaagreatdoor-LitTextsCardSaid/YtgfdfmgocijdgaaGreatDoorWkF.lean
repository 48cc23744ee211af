/- lit.Rune of the checked program, walked. -/
import Derived.Test.YtgfdfmgocijdgaaGreatDoorWkE
namespace Go.Proofs.YtgfdfmgocijdgaaGreatDoor
open Go.RowKit Go.Lib Go.Shelf
theorem decodeN_le (n b0 b1 b2 b3 : Nat) (h : 1 ≤ n) : (decodeN n b0 b1 b2 b3).2 ≤ n := by
  unfold decodeN
  repeat' split
  all_goals simp only <;> omega
theorem decodeGo_le (s : ByteArray) : (Lib.decodeGo s).2 ≤ s.size := by
  unfold Lib.decodeGo
  split
  · simp
  · rw [decode_at]
    exact decodeN_le _ _ _ _ _ (by omega)
theorem value_neg {l : List UInt8} {many base : Nat} (h : ¬ valueS l many base < 0) : many ≤ l.length := by
  unfold valueS at h
  by_cases hm : many ≤ l.length
  · exact hm
  · rw [if_neg hm] at h; omega
theorem esc_le (l : List UInt8) (off many base most : Nat) (h : off ≤ l.length) : ∃ m : Nat, (escS l off many base most).2.2 = m ∧ m ≤ l.length := by
  unfold escS
  split
  · exact ⟨0, rfl, Nat.zero_le _⟩
  · rename_i h1
    have := value_neg h1
    rw [List.length_drop] at this
    repeat' split
    · exact ⟨0, rfl, Nat.zero_le _⟩
    · exact ⟨0, rfl, Nat.zero_le _⟩
    · exact ⟨off + many, by simp, by omega⟩
theorem one_le (l : List UInt8) (q : Nat) : ∃ m : Nat, (oneS l q).2.2 = m ∧ m ≤ l.length := by
  unfold oneS
  by_cases h0 : l.length = 0
  · rw [if_pos h0]; exact ⟨0, rfl, Nat.zero_le _⟩
  rw [if_neg h0]
  by_cases h1 : bN l 0 = q
  · rw [if_pos h1]; exact ⟨0, rfl, Nat.zero_le _⟩
  rw [if_neg h1]
  by_cases h2 : bN l 0 = 10
  · rw [if_pos h2]; exact ⟨0, rfl, Nat.zero_le _⟩
  rw [if_neg h2]
  by_cases h3 : bN l 0 ≠ 92
  · rw [if_pos h3]; exact ⟨_, rfl, Nat.le_trans (decodeGo_le ⟨l.toArray⟩) (by show l.toArray.size ≤ _; simp)⟩
  rw [if_neg h3]
  by_cases h4 : l.length < 2
  · rw [if_pos h4]; exact ⟨0, rfl, Nat.zero_le _⟩
  rw [if_neg h4]
  by_cases h5 : (plainT (bN l 1)).2 = true
  · rw [if_pos h5]; exact ⟨2, rfl, by omega⟩
  rw [if_neg h5]
  by_cases h6 : bN l 1 = q
  · rw [if_pos h6]; exact ⟨2, rfl, by omega⟩
  rw [if_neg h6]
  repeat' split
  all_goals exact esc_le _ _ _ _ _ (by omega)
/-- What lit.Rune says. -/
def runeS (s : ByteArray) : Int × Int :=
  if chkE s ≠ 0 then (0, chkE s)
  else if s.size < 2 then (0, 5)
  else if bN s.data.toList 0 ≠ 39 then (0, 5)
  else if (oneS (s.data.toList.drop 1) 39).2.2 = 0 then (0, 5)
  else if s.data.toList.drop (1 + (oneS (s.data.toList.drop 1) 39).2.2).toNat = [39] then ((oneS (s.data.toList.drop 1) 39).1, 0)
  else (0, 5)
def RunePost (r : Int × Int) (W : World) (e : Ending) (w' : World) : Prop := e = .returned (.tuple #[.int .i32 r.1, .int .i64 r.2]) ∧ Below W.heap.size W w'
theorem chk_vals (s : ByteArray) : chkE s = 0 ∨ chkE s = 7 ∨ chkE s = 12 := by
  unfold chkE
  repeat' split
  all_goals simp
set_option maxRecDepth 1000000 in
set_option maxHeartbeats 4000000 in
theorem rune_any (s : ByteArray) (hs : s.size ≤ 4010) (w : World) (hG : GW w) : Calls Tryz.prog 4 #[.string s] w (RunePost (runeS s) w) := by
  obtain ⟨o, ho⟩ : ∃ o, runeS s = o := ⟨_, rfl⟩
  rw [ho]
  unfold runeS at ho
  have hk := chk_vals s
  have hC := fun W => check_any s W
  unfold ChkPost at hC
  generalize chkE s = ce at *
  by_cases h1 : ce = 0
  · rw [if_neg (fun h => h h1)] at ho
    subst h1
    clear hk
    by_cases h2 : s.size < 2
    · rw [if_pos h2] at ho
      subst ho
      have f4 : decide ((s.size : Int) < 2) = true := decide_eq_true (by omega)
      have f5 : decide (s.size < 2) = true := decide_eq_true (by omega)
      go_enter Tryz.func4, Tryz.ntmps4
      go_wp2_with (first | (go_at_call 10; (with_reducible refine (hC _).mono ?_); rintro e w1 ⟨p, rfl, hb1⟩))
      go_ret2
      exact ⟨rfl, hb1⟩
    · rw [if_neg h2] at ho
      have f4 : decide ((s.size : Int) < 2) = false := decide_eq_false (by omega)
      have f5 : decide (s.size < 2) = false := decide_eq_false (by omega)
      have f6 : 0 < s.size := by omega
      have f7 : 1 ≤ s.size := by omega
      have hx0 := byte_at s 0
      generalize bN s.data.toList 0 = B0 at *
      by_cases h3 : B0 = 39
      · rw [if_neg (fun h => h h3)] at ho
        have f3 : ((B0 : Int) != 39) = false := by rw [bne_eq_false_iff_eq]; omega
        clear h3
        have hO : ∀ W, GW W → Calls Tryz.prog 11 #[.string (s.extract 1 s.size), .int .u8 39] W (OnePost (oneS (s.extract 1 s.size).data.toList 39) W) := fun W hW => one_any (s.extract 1 s.size) 39 (Nat.le_trans (drop_size s 1) hs) (.inl rfl) W hW
        rw [drop_list] at hO
        obtain ⟨m, hm, hml⟩ := one_le (s.data.toList.drop 1) 39
        rw [List.length_drop, len_list] at hml
        generalize oneS (s.data.toList.drop 1) 39 = one at *
        obtain ⟨r, t, n⟩ := one
        simp only at hm ho
        subst hm
        unfold OnePost at hO
        simp only at hO
        by_cases h4 : m = 0
        · rw [if_pos (by omega)] at ho
          subst ho
          subst h4
          go_enter Tryz.func4, Tryz.ntmps4
          go_wp2_with (first | (go_at_call 10; (with_reducible refine (hC _).mono ?_); rintro e w1 ⟨p, rfl, hb1⟩) | (go_at_call 11; (with_reducible refine (hO _ (hG.below hb1)).mono ?_); rintro e w2 ⟨rfl, hb2⟩))
          go_ret2
          exact ⟨rfl, below_two hb1 hb2⟩
        · rw [if_neg (by omega)] at ho
          have e1 : (1 + (m : Int)).toNat = 1 + m := by omega
          rw [e1] at ho
          have g1 : ((m : Int) == 0) = false := by rw [beq_eq_false_iff_ne]; omega
          have g2 : 1 + m ≤ s.size := by omega
          have g3 : (1 + (m : Int)) ≤ s.size := by omega
          have hdl : (s.extract (1 + m) s.size).toList = s.data.toList.drop (1 + m) := by rw [Lib.toList_data, drop_list]
          by_cases h5 : s.data.toList.drop (1 + m) = [39]
          · rw [if_pos h5] at ho
            subst ho
            have f5 : ((s.extract (1 + m) s.size).toList == ([39] : List UInt8)) = true := by rw [hdl, h5]; rfl
            clear hdl h5
            go_enter Tryz.func4, Tryz.ntmps4
            go_wp2_with (first | (go_at_call 10; (with_reducible refine (hC _).mono ?_); rintro e w1 ⟨p, rfl, hb1⟩) | (go_at_call 11; (with_reducible refine (hO _ (hG.below hb1)).mono ?_); rintro e w2 ⟨rfl, hb2⟩))
            go_ret2
            exact ⟨rfl, below_two hb1 hb2⟩
          · rw [if_neg h5] at ho
            subst ho
            have f5 : ((s.extract (1 + m) s.size).toList == ([39] : List UInt8)) = false := by rw [hdl]; simpa using h5
            clear hdl h5
            go_enter Tryz.func4, Tryz.ntmps4
            go_wp2_with (first | (go_at_call 10; (with_reducible refine (hC _).mono ?_); rintro e w1 ⟨p, rfl, hb1⟩) | (go_at_call 11; (with_reducible refine (hO _ (hG.below hb1)).mono ?_); rintro e w2 ⟨rfl, hb2⟩))
            go_ret2
            exact ⟨rfl, below_two hb1 hb2⟩
      · rw [if_pos h3] at ho
        subst ho
        have f3 : ((B0 : Int) != 39) = true := by rw [bne_iff_ne]; omega
        clear h3
        go_enter Tryz.func4, Tryz.ntmps4
        go_wp2_with (first | (go_at_call 10; (with_reducible refine (hC _).mono ?_); rintro e w1 ⟨p, rfl, hb1⟩))
        go_ret2
        exact ⟨rfl, hb1⟩
  · rw [if_pos h1] at ho
    subst ho
    have f1 : (ce != 0) = true := by rw [bne_iff_ne]; exact h1
    clear h1 hk
    go_enter Tryz.func4, Tryz.ntmps4
    go_wp2_with (first | (go_at_call 10; (with_reducible refine (hC _).mono ?_); rintro e w1 ⟨p, rfl, hb1⟩))
    go_ret2
    exact ⟨rfl, hb1⟩
end Go.Proofs.YtgfdfmgocijdgaaGreatDoor
