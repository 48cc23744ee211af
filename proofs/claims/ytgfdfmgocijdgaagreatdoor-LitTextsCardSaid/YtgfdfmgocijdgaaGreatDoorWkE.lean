/- lit.one of the checked program, walked. -/
import Derived.Test.YtgfdfmgocijdgaaGreatDoorWkD
namespace Go.Proofs.YtgfdfmgocijdgaaGreatDoor
open Go.RowKit Go.Lib Go.Shelf
/-- A byte of a text; 0 behind its end. -/
def bN (l : List UInt8) (i : Nat) : Nat := (l.getD i 0).toNat
def escS (l : List UInt8) (off many base most : Nat) : Int × Bool × Int :=
  if valueS (l.drop off) many base < 0 then (0, false, 0)
  else if (most : Int) < valueS (l.drop off) many base then (0, false, 0)
  else if 255 < most ∧ Lib.validRune (valueS (l.drop off) many base) = false then (0, false, 0)
  else (valueS (l.drop off) many base, decide (most = 255), (off : Int) + many)
/-- What a text, between such quotes, begins with. -/
def oneS (l : List UInt8) (q : Nat) : Int × Bool × Int :=
  if l.length = 0 then (0, false, 0)
  else if bN l 0 = q then (0, false, 0)
  else if bN l 0 = 10 then (0, false, 0)
  else if bN l 0 ≠ 92 then ((Lib.decodeGo ⟨l.toArray⟩).1, false, (Lib.decodeGo ⟨l.toArray⟩).2)
  else if l.length < 2 then (0, false, 0)
  else if (plainT (bN l 1)).2 = true then ((plainT (bN l 1)).1, true, 2)
  else if bN l 1 = q then (bN l 1, true, 2)
  else if bN l 1 = 85 then escS l 2 8 16 1114111
  else if bN l 1 = 117 then escS l 2 4 16 1114111
  else if bN l 1 = 120 then escS l 2 2 16 255
  else escS l 1 3 8 255
def OnePost (r : Int × Bool × Int) (W : World) (e : Ending) (w' : World) : Prop := e = .returned (.tuple #[.int .i32 r.1, .bool r.2.1, .int .i64 r.2.2]) ∧ Below W.heap.size W w'
theorem byte_at (s : ByteArray) (i : Nat) : ∀ h : i < s.size, ((s[i]'h).toNat : Int) = (bN s.data.toList i : Int) := by
  intro h
  unfold bN
  have hl : i < s.data.toList.length := by simpa using h
  rw [List.getD_eq_getElem?_getD, List.getElem?_eq_getElem hl]
  rfl
theorem len_list (s : ByteArray) : s.data.toList.length = s.size := by simp
theorem drop_list (s : ByteArray) (i : Nat) : (s.extract i s.size).data.toList = s.data.toList.drop i := by
  simp [List.take_of_length_le]
theorem drop_size (s : ByteArray) (i : Nat) : (s.extract i s.size).size ≤ s.size := by simp
theorem value_U (s : ByteArray) (hs : s.size ≤ 4010) : ∀ W, BasesAt W → Calls Tryz.prog 25 #[.string (s.extract 2 s.size), .int .i64 8, .int .i64 16, .string ⟨#[48, 49, 50, 51, 52, 53, 54, 55, 56, 57, 97, 98, 99, 100, 101, 102, 65, 66, 67, 68, 69, 70]⟩] W (IntPost (valueS (s.data.toList.drop 2) 8 16) W) := by
  intro W hW
  have := value_any (.inr ⟨rfl, rfl⟩) (s.extract 2 s.size) 8 (Nat.le_trans (drop_size s 2) hs) (by omega) (by omega) W hW
  rw [drop_list] at this
  exact this
theorem value_u (s : ByteArray) (hs : s.size ≤ 4010) : ∀ W, BasesAt W → Calls Tryz.prog 25 #[.string (s.extract 2 s.size), .int .i64 4, .int .i64 16, .string ⟨#[48, 49, 50, 51, 52, 53, 54, 55, 56, 57, 97, 98, 99, 100, 101, 102, 65, 66, 67, 68, 69, 70]⟩] W (IntPost (valueS (s.data.toList.drop 2) 4 16) W) := by
  intro W hW
  have := value_any (.inr ⟨rfl, rfl⟩) (s.extract 2 s.size) 4 (Nat.le_trans (drop_size s 2) hs) (by omega) (by omega) W hW
  rw [drop_list] at this
  exact this
theorem value_x (s : ByteArray) (hs : s.size ≤ 4010) : ∀ W, BasesAt W → Calls Tryz.prog 25 #[.string (s.extract 2 s.size), .int .i64 2, .int .i64 16, .string ⟨#[48, 49, 50, 51, 52, 53, 54, 55, 56, 57, 97, 98, 99, 100, 101, 102, 65, 66, 67, 68, 69, 70]⟩] W (IntPost (valueS (s.data.toList.drop 2) 2 16) W) := by
  intro W hW
  have := value_any (.inr ⟨rfl, rfl⟩) (s.extract 2 s.size) 2 (Nat.le_trans (drop_size s 2) hs) (by omega) (by omega) W hW
  rw [drop_list] at this
  exact this
theorem value_8 (s : ByteArray) (hs : s.size ≤ 4010) : ∀ W, BasesAt W → Calls Tryz.prog 25 #[.string (s.extract 1 s.size), .int .i64 3, .int .i64 8, .string ⟨#[48, 49, 50, 51, 52, 53, 54, 55]⟩] W (IntPost (valueS (s.data.toList.drop 1) 3 8) W) := by
  intro W hW
  have := value_any (.inl ⟨rfl, rfl⟩) (s.extract 1 s.size) 3 (Nat.le_trans (drop_size s 1) hs) (by omega) (by omega) W hW
  rw [drop_list] at this
  exact this
theorem plain_lt (c : Nat) : (plainT c).1 < 256 := by
  unfold plainT
  repeat' split
  all_goals simp
theorem is_empty (s : ByteArray) (hn : s.size = 0) : s.toList.isEmpty = true := by
  rw [Lib.toList_data]
  have h := len_list s
  cases hl : s.data.toList with
  | nil => rfl
  | cons _ _ => rw [hl] at h; simp at h; omega
theorem isEmpty_false (s : ByteArray) (hn : 0 < s.size) : s.toList.isEmpty = false := not_empty s hn
set_option maxRecDepth 1000000 in
set_option maxHeartbeats 4000000 in
theorem one_any (s : ByteArray) (q : Nat) (hs : s.size ≤ 4010) (hq : q = 39 ∨ q = 34) (w : World) (hG : GW w) : Calls Tryz.prog 11 #[.string s, .int .u8 q] w (OnePost (oneS s.data.toList q) w) := by
  obtain ⟨o, ho⟩ : ∃ o, oneS s.data.toList q = o := ⟨_, rfl⟩
  rw [ho]
  unfold oneS at ho
  rw [len_list] at ho
  by_cases hn : s.size = 0
  · rw [if_pos hn] at ho
    subst ho
    have he : s.toList.isEmpty = true := is_empty s hn
    go_enter Tryz.func11, Tryz.ntmps11
    go_wp2
    go_ret3
    exact ⟨rfl, Below.refl _ _⟩
  · rw [if_neg hn] at ho
    have hpos : 0 < s.size := by omega
    have he := isEmpty_false s hpos
    have hx0 := byte_at s 0
    have hx1 := byte_at s 1
    have c1 : bN s.data.toList 1 < 256 := (s.data.toList.getD 1 0).toNat_lt
    generalize bN s.data.toList 0 = B0 at *
    generalize bN s.data.toList 1 = C at *
    by_cases h1 : B0 = q
    · rw [if_pos h1] at ho
      subst ho
      subst h1
      have f1 : ((B0 : Int) == (B0 : Int)) = true := by simp
      go_enter Tryz.func11, Tryz.ntmps11
      go_wp2
      go_ret3
      exact ⟨rfl, Below.refl _ _⟩
    · rw [if_neg h1] at ho
      have f1 : ((B0 : Int) == (q : Int)) = false := by rw [beq_eq_false_iff_ne]; omega
      by_cases h2 : B0 = 10
      · rw [if_pos h2] at ho
        subst ho
        have f2 : ((B0 : Int) == 10) = true := by rw [beq_iff_eq]; omega
        clear h2
        go_enter Tryz.func11, Tryz.ntmps11
        go_wp2
        go_ret3
        exact ⟨rfl, Below.refl _ _⟩
      · rw [if_neg h2] at ho
        have f2 : ((B0 : Int) == 10) = false := by rw [beq_eq_false_iff_ne]; omega
        by_cases h3 : B0 = 92
        · rw [if_neg (fun h => h h3)] at ho
          have f3 : ((B0 : Int) != 92) = false := by rw [bne_eq_false_iff_eq]; omega
          clear h3 h1 h2
          by_cases h4 : s.size < 2
          · rw [if_pos h4] at ho
            subst ho
            have f4 : decide ((s.size : Int) < 2) = true := decide_eq_true (by omega)
            have f5 : decide (s.size < 2) = true := decide_eq_true (by omega)
            go_enter Tryz.func11, Tryz.ntmps11
            go_wp2
            go_ret3
            exact ⟨rfl, Below.refl _ _⟩
          · rw [if_neg h4] at ho
            have f4 : decide ((s.size : Int) < 2) = false := decide_eq_false (by omega)
            have f5 : decide (s.size < 2) = false := decide_eq_false (by omega)
            have f6 : 1 < s.size := by omega
            have hp := fun W hW => plain_any (w := W) hW C c1
            by_cases h5 : (plainT C).2 = true
            · rw [if_pos h5] at ho
              subst ho
              have hb : (plainT C).1 < 256 := plain_lt C
              unfold PlainPost at hp
              generalize (plainT C).1 = pv at *
              generalize (plainT C).2 = pt at *
              subst h5
              have p0 : 0 ≤ (pv : Int) := by omega
              have p1 : (pv : Int) < 256 := by omega
              go_enter Tryz.func11, Tryz.ntmps11
              go_wp2_with (first | (go_at_call 24; (with_reducible refine (hp _ hG).mono ?_); rintro e w1 ⟨b, w2, rfl, hlk, hb1⟩))
              go_ret3
              exact ⟨rfl, hb1⟩
            · rw [if_neg h5] at ho
              unfold PlainPost at hp
              generalize (plainT C).1 = pv at *
              generalize (plainT C).2 = pt at *
              have h5' : pt = false := by simpa using h5
              clear h5
              subst h5'
              by_cases h6 : C = q
              · rw [if_pos h6] at ho
                subst ho
                subst h6
                have g1 : ((C : Int) == (C : Int)) = true := by simp
                have p0 : 0 ≤ (C : Int) := by omega
                have p1 : (C : Int) < 256 := by omega
                go_enter Tryz.func11, Tryz.ntmps11
                go_wp2_with (first | (go_at_call 24; (with_reducible refine (hp _ hG).mono ?_); rintro e w1 ⟨b, w2, rfl, hlk, hb1⟩))
                go_ret3
                exact ⟨rfl, hb1⟩
              · rw [if_neg h6] at ho
                have g1 : ((C : Int) == (q : Int)) = false := by rw [beq_eq_false_iff_ne]; omega
                by_cases e85 : C = 85
                · rw [if_pos e85] at ho
                  have g85 : ((C : Int) == 85) = true := by rw [beq_iff_eq]; omega
                  have g117 : ((C : Int) == 117) = false := by rw [beq_eq_false_iff_ne]; omega
                  have g120 : ((C : Int) == 120) = false := by rw [beq_eq_false_iff_ne]; omega
                  clear e85 h6
                  unfold escS at ho
                  have hv := value_U s hs
                  generalize valueS _ _ _ = v at *
                  by_cases k1 : v < 0
                  · rw [if_pos k1] at ho
                    subst ho
                    have k1' : decide (v < 0) = true := decide_eq_true k1
                    clear k1
                    go_enter Tryz.func11, Tryz.ntmps11
                    go_wp2_with (first | (go_at_call 24; (with_reducible refine (hp _ hG).mono ?_); rintro e w1 ⟨b, w2, rfl, hlk, hb1⟩) | (go_at_call 25; (with_reducible refine (hv _ (hG.below hb1).bases).mono ?_); rintro e w3 ⟨rfl, hb3⟩) | (go_at_call 26; (with_reducible refine (Tryz.utf8_ValidRune _ _).mono ?_); rintro e w4 ⟨rfl, rfl⟩))
                    go_ret3
                    exact ⟨rfl, below_two hb1 hb3⟩
                  · rw [if_neg k1] at ho
                    have k1' : decide (v < 0) = false := decide_eq_false k1
                    by_cases k2 : ((1114111 : Nat) : Int) < v
                    · rw [if_pos k2] at ho
                      subst ho
                      have k2' : decide (1114111 < v) = true := decide_eq_true (by omega)
                      clear k1 k2
                      go_enter Tryz.func11, Tryz.ntmps11
                      go_wp2_with (first | (go_at_call 24; (with_reducible refine (hp _ hG).mono ?_); rintro e w1 ⟨b, w2, rfl, hlk, hb1⟩) | (go_at_call 25; (with_reducible refine (hv _ (hG.below hb1).bases).mono ?_); rintro e w3 ⟨rfl, hb3⟩) | (go_at_call 26; (with_reducible refine (Tryz.utf8_ValidRune _ _).mono ?_); rintro e w4 ⟨rfl, rfl⟩))
                      go_ret3
                      exact ⟨rfl, below_two hb1 hb3⟩
                    · rw [if_neg k2] at ho
                      have k2' : decide (1114111 < v) = false := decide_eq_false (by omega)
                      have k3 : 0 ≤ v := by omega
                      have k4 : v < 1114112 := by omega
                      by_cases k5 : Lib.validRune v = false
                      · rw [if_pos ⟨by omega, k5⟩] at ho
                        subst ho
                        clear k1 k2
                        go_enter Tryz.func11, Tryz.ntmps11
                        go_wp2_with (first | (go_at_call 24; (with_reducible refine (hp _ hG).mono ?_); rintro e w1 ⟨b, w2, rfl, hlk, hb1⟩) | (go_at_call 25; (with_reducible refine (hv _ (hG.below hb1).bases).mono ?_); rintro e w3 ⟨rfl, hb3⟩) | (go_at_call 26; (with_reducible refine (Tryz.utf8_ValidRune _ _).mono ?_); rintro e w4 ⟨rfl, rfl⟩))
                        go_ret3
                        exact ⟨rfl, below_two hb1 hb3⟩
                      · rw [if_neg (fun h => k5 h.2)] at ho
                        have k5' : Lib.validRune v = true := by simpa using k5
                        subst ho
                        clear k1 k2 k5
                        go_enter Tryz.func11, Tryz.ntmps11
                        go_wp2_with (first | (go_at_call 24; (with_reducible refine (hp _ hG).mono ?_); rintro e w1 ⟨b, w2, rfl, hlk, hb1⟩) | (go_at_call 25; (with_reducible refine (hv _ (hG.below hb1).bases).mono ?_); rintro e w3 ⟨rfl, hb3⟩) | (go_at_call 26; (with_reducible refine (Tryz.utf8_ValidRune _ _).mono ?_); rintro e w4 ⟨rfl, rfl⟩))
                        go_ret3
                        exact ⟨rfl, below_two hb1 hb3⟩
                · rw [if_neg e85] at ho
                  have g85 : ((C : Int) == 85) = false := by rw [beq_eq_false_iff_ne]; omega
                  by_cases e117 : C = 117
                  · rw [if_pos e117] at ho
                    have g117 : ((C : Int) == 117) = true := by rw [beq_iff_eq]; omega
                    have g120 : ((C : Int) == 120) = false := by rw [beq_eq_false_iff_ne]; omega
                    clear e117 h6
                    unfold escS at ho
                    have hv := value_u s hs
                    generalize valueS _ _ _ = v at *
                    by_cases k1 : v < 0
                    · rw [if_pos k1] at ho
                      subst ho
                      have k1' : decide (v < 0) = true := decide_eq_true k1
                      clear k1
                      go_enter Tryz.func11, Tryz.ntmps11
                      go_wp2_with (first | (go_at_call 24; (with_reducible refine (hp _ hG).mono ?_); rintro e w1 ⟨b, w2, rfl, hlk, hb1⟩) | (go_at_call 25; (with_reducible refine (hv _ (hG.below hb1).bases).mono ?_); rintro e w3 ⟨rfl, hb3⟩) | (go_at_call 26; (with_reducible refine (Tryz.utf8_ValidRune _ _).mono ?_); rintro e w4 ⟨rfl, rfl⟩))
                      go_ret3
                      exact ⟨rfl, below_two hb1 hb3⟩
                    · rw [if_neg k1] at ho
                      have k1' : decide (v < 0) = false := decide_eq_false k1
                      by_cases k2 : ((1114111 : Nat) : Int) < v
                      · rw [if_pos k2] at ho
                        subst ho
                        have k2' : decide (1114111 < v) = true := decide_eq_true (by omega)
                        clear k1 k2
                        go_enter Tryz.func11, Tryz.ntmps11
                        go_wp2_with (first | (go_at_call 24; (with_reducible refine (hp _ hG).mono ?_); rintro e w1 ⟨b, w2, rfl, hlk, hb1⟩) | (go_at_call 25; (with_reducible refine (hv _ (hG.below hb1).bases).mono ?_); rintro e w3 ⟨rfl, hb3⟩) | (go_at_call 26; (with_reducible refine (Tryz.utf8_ValidRune _ _).mono ?_); rintro e w4 ⟨rfl, rfl⟩))
                        go_ret3
                        exact ⟨rfl, below_two hb1 hb3⟩
                      · rw [if_neg k2] at ho
                        have k2' : decide (1114111 < v) = false := decide_eq_false (by omega)
                        have k3 : 0 ≤ v := by omega
                        have k4 : v < 1114112 := by omega
                        by_cases k5 : Lib.validRune v = false
                        · rw [if_pos ⟨by omega, k5⟩] at ho
                          subst ho
                          clear k1 k2
                          go_enter Tryz.func11, Tryz.ntmps11
                          go_wp2_with (first | (go_at_call 24; (with_reducible refine (hp _ hG).mono ?_); rintro e w1 ⟨b, w2, rfl, hlk, hb1⟩) | (go_at_call 25; (with_reducible refine (hv _ (hG.below hb1).bases).mono ?_); rintro e w3 ⟨rfl, hb3⟩) | (go_at_call 26; (with_reducible refine (Tryz.utf8_ValidRune _ _).mono ?_); rintro e w4 ⟨rfl, rfl⟩))
                          go_ret3
                          exact ⟨rfl, below_two hb1 hb3⟩
                        · rw [if_neg (fun h => k5 h.2)] at ho
                          have k5' : Lib.validRune v = true := by simpa using k5
                          subst ho
                          clear k1 k2 k5
                          go_enter Tryz.func11, Tryz.ntmps11
                          go_wp2_with (first | (go_at_call 24; (with_reducible refine (hp _ hG).mono ?_); rintro e w1 ⟨b, w2, rfl, hlk, hb1⟩) | (go_at_call 25; (with_reducible refine (hv _ (hG.below hb1).bases).mono ?_); rintro e w3 ⟨rfl, hb3⟩) | (go_at_call 26; (with_reducible refine (Tryz.utf8_ValidRune _ _).mono ?_); rintro e w4 ⟨rfl, rfl⟩))
                          go_ret3
                          exact ⟨rfl, below_two hb1 hb3⟩
                  · rw [if_neg e117] at ho
                    have g117 : ((C : Int) == 117) = false := by rw [beq_eq_false_iff_ne]; omega
                    by_cases e120 : C = 120
                    · rw [if_pos e120] at ho
                      have g120 : ((C : Int) == 120) = true := by rw [beq_iff_eq]; omega
                      clear e120 h6
                      unfold escS at ho
                      have hv := value_x s hs
                      generalize valueS _ _ _ = v at *
                      by_cases k1 : v < 0
                      · rw [if_pos k1] at ho
                        subst ho
                        have k1' : decide (v < 0) = true := decide_eq_true k1
                        clear k1
                        go_enter Tryz.func11, Tryz.ntmps11
                        go_wp2_with (first | (go_at_call 24; (with_reducible refine (hp _ hG).mono ?_); rintro e w1 ⟨b, w2, rfl, hlk, hb1⟩) | (go_at_call 25; (with_reducible refine (hv _ (hG.below hb1).bases).mono ?_); rintro e w3 ⟨rfl, hb3⟩) | (go_at_call 26; (with_reducible refine (Tryz.utf8_ValidRune _ _).mono ?_); rintro e w4 ⟨rfl, rfl⟩))
                        go_ret3
                        exact ⟨rfl, below_two hb1 hb3⟩
                      · rw [if_neg k1] at ho
                        have k1' : decide (v < 0) = false := decide_eq_false k1
                        by_cases k2 : ((255 : Nat) : Int) < v
                        · rw [if_pos k2] at ho
                          subst ho
                          have k2' : decide (255 < v) = true := decide_eq_true (by omega)
                          clear k1 k2
                          go_enter Tryz.func11, Tryz.ntmps11
                          go_wp2_with (first | (go_at_call 24; (with_reducible refine (hp _ hG).mono ?_); rintro e w1 ⟨b, w2, rfl, hlk, hb1⟩) | (go_at_call 25; (with_reducible refine (hv _ (hG.below hb1).bases).mono ?_); rintro e w3 ⟨rfl, hb3⟩) | (go_at_call 26; (with_reducible refine (Tryz.utf8_ValidRune _ _).mono ?_); rintro e w4 ⟨rfl, rfl⟩))
                          go_ret3
                          exact ⟨rfl, below_two hb1 hb3⟩
                        · rw [if_neg k2] at ho
                          have k2' : decide (255 < v) = false := decide_eq_false (by omega)
                          have k3 : 0 ≤ v := by omega
                          have k4 : v < 1114112 := by omega
                          rw [if_neg (fun h => absurd h.1 (by omega))] at ho
                          subst ho
                          clear k1 k2
                          go_enter Tryz.func11, Tryz.ntmps11
                          go_wp2_with (first | (go_at_call 24; (with_reducible refine (hp _ hG).mono ?_); rintro e w1 ⟨b, w2, rfl, hlk, hb1⟩) | (go_at_call 25; (with_reducible refine (hv _ (hG.below hb1).bases).mono ?_); rintro e w3 ⟨rfl, hb3⟩) | (go_at_call 26; (with_reducible refine (Tryz.utf8_ValidRune _ _).mono ?_); rintro e w4 ⟨rfl, rfl⟩))
                          go_ret3
                          exact ⟨rfl, below_two hb1 hb3⟩
                    · rw [if_neg e120] at ho
                      have g120 : ((C : Int) == 120) = false := by rw [beq_eq_false_iff_ne]; omega
                      clear h6
                      unfold escS at ho
                      have hv := value_8 s hs
                      generalize valueS _ _ _ = v at *
                      by_cases k1 : v < 0
                      · rw [if_pos k1] at ho
                        subst ho
                        have k1' : decide (v < 0) = true := decide_eq_true k1
                        clear k1
                        go_enter Tryz.func11, Tryz.ntmps11
                        go_wp2_with (first | (go_at_call 24; (with_reducible refine (hp _ hG).mono ?_); rintro e w1 ⟨b, w2, rfl, hlk, hb1⟩) | (go_at_call 25; (with_reducible refine (hv _ (hG.below hb1).bases).mono ?_); rintro e w3 ⟨rfl, hb3⟩) | (go_at_call 26; (with_reducible refine (Tryz.utf8_ValidRune _ _).mono ?_); rintro e w4 ⟨rfl, rfl⟩))
                        go_ret3
                        exact ⟨rfl, below_two hb1 hb3⟩
                      · rw [if_neg k1] at ho
                        have k1' : decide (v < 0) = false := decide_eq_false k1
                        by_cases k2 : ((255 : Nat) : Int) < v
                        · rw [if_pos k2] at ho
                          subst ho
                          have k2' : decide (255 < v) = true := decide_eq_true (by omega)
                          clear k1 k2
                          go_enter Tryz.func11, Tryz.ntmps11
                          go_wp2_with (first | (go_at_call 24; (with_reducible refine (hp _ hG).mono ?_); rintro e w1 ⟨b, w2, rfl, hlk, hb1⟩) | (go_at_call 25; (with_reducible refine (hv _ (hG.below hb1).bases).mono ?_); rintro e w3 ⟨rfl, hb3⟩) | (go_at_call 26; (with_reducible refine (Tryz.utf8_ValidRune _ _).mono ?_); rintro e w4 ⟨rfl, rfl⟩))
                          go_ret3
                          exact ⟨rfl, below_two hb1 hb3⟩
                        · rw [if_neg k2] at ho
                          have k2' : decide (255 < v) = false := decide_eq_false (by omega)
                          have k3 : 0 ≤ v := by omega
                          have k4 : v < 1114112 := by omega
                          rw [if_neg (fun h => absurd h.1 (by omega))] at ho
                          subst ho
                          clear k1 k2
                          go_enter Tryz.func11, Tryz.ntmps11
                          go_wp2_with (first | (go_at_call 24; (with_reducible refine (hp _ hG).mono ?_); rintro e w1 ⟨b, w2, rfl, hlk, hb1⟩) | (go_at_call 25; (with_reducible refine (hv _ (hG.below hb1).bases).mono ?_); rintro e w3 ⟨rfl, hb3⟩) | (go_at_call 26; (with_reducible refine (Tryz.utf8_ValidRune _ _).mono ?_); rintro e w4 ⟨rfl, rfl⟩))
                          go_ret3
                          exact ⟨rfl, below_two hb1 hb3⟩
        · rw [if_pos h3] at ho
          have f3 : ((B0 : Int) != 92) = true := by rw [bne_iff_ne]; omega
          have hd := fun W hW => Tryz.utf8_DecodeRuneInString s W hW
          have hs' : (⟨s.data.toList.toArray⟩ : ByteArray) = s := by simp
          rw [hs'] at ho
          generalize Lib.decodeGo s = d at *
          subst ho
          clear h1 h2 h3
          go_enter Tryz.func11, Tryz.ntmps11
          go_wp2_with (first | (go_at_call 23; (with_reducible refine (hd _ hG.tabs).mono ?_); rintro e w1 ⟨rfl, hb1⟩))
          go_ret3
          exact ⟨rfl, hb1⟩
end Go.Proofs.YtgfdfmgocijdgaaGreatDoor
