/- Plain functions of the checked program, each with the proof that the call comes to it: printed by the kit's program for this claim. -/
import Derived.Test.YtgfdfmgocijdgaaGreatDoorPRx0
import Derived.Test.YtgfdfmgocijdgaaGreatDoorPRx2
namespace Go.Proofs.YtgfdfmgocijdgaaGreatDoor.PLitTexts
open Go.RowKit Go.Proofs.YtgfdfmgocijdgaaGreatDoorW.PrintWords Go.Proofs.YtgfdfmgocijdgaaGreatDoorW.PrintLast Go.Proofs.YtgfdfmgocijdgaaGreatDoorW.PrintMore
attribute [local go_sem] max2_int min2_int max_two min_two max_three min_three max_four min_four   -- for this text's walks alone
set_option linter.unusedVariables false
set_option linter.unusedSimpArgs false

/-! ### indentureref04_Spoilt: function 16 -/
def indentureref04_Spoilt.l0 : Nat → ByteArray → Int → Option (Int)
  | 0, _, _ => none
  | k + 1, x0, x3 => if x3 < (x0.size : Int) then ((indentureref04_Size.f k x0 x3).bind fun t125 => (if t125 = 0 then (some x3) else (if 0 ≤ x3 then (if (bt x0 x3) = 0 then (some x3) else (indentureref04_Spoilt.l0 k x0 (wrap64 (x3 + t125)))) else (none)))) else (some (-1))
def indentureref04_Spoilt.f (k : Nat) (a0 : ByteArray) : Option (Int) := indentureref04_Spoilt.l0 k a0 0
theorem indentureref04_Spoilt.mono_l : ∀ k, (∀ y0 y1, LeO (indentureref04_Spoilt.l0 k y0 y1) (indentureref04_Spoilt.l0 (k + 1) y0 y1))
  | 0 => fun _ _ r h => by simp [indentureref04_Spoilt.l0] at h
  | k + 1 => by
    have ih0 := indentureref04_Spoilt.mono_l k
    · intro y0 y1
      unfold indentureref04_Spoilt.l0
      repeat' first
      | (with_reducible exact ih0 _ _)
      | (with_reducible exact indentureref04_Size.mono _ _ _)
      | (with_reducible exact LeO.refl _)
      | (with_reducible exact LeO.none _)
      | (with_reducible refine LeO.ite ?_ ?_)
      | (with_reducible refine LeO.bind ?_ (fun _ => ?_))
      | exact ih0 _ _
      | exact indentureref04_Size.mono _ _ _
      | exact LeO.none _
      | refine LeO.ite ?_ ?_
      | refine LeO.bind ?_ (fun _ => ?_)
theorem indentureref04_Spoilt.mono : ∀ a0 k, LeO (indentureref04_Spoilt.f k a0) (indentureref04_Spoilt.f (k + 1) a0) := by
  intro a0 k
  have ih0 := indentureref04_Spoilt.mono_l k
  unfold indentureref04_Spoilt.f
  repeat' first
      | (with_reducible exact ih0 _ _)
      | (with_reducible exact indentureref04_Size.mono _ _ _)
      | (with_reducible exact LeO.refl _)
      | (with_reducible exact LeO.none _)
      | (with_reducible refine LeO.ite ?_ ?_)
      | (with_reducible refine LeO.bind ?_ (fun _ => ?_))
      | exact ih0 _ _
      | exact indentureref04_Size.mono _ _ _
      | exact LeO.none _
      | refine LeO.ite ?_ ?_
      | refine LeO.bind ?_ (fun _ => ?_)
set_option maxHeartbeats 8000000 in
set_option maxRecDepth 100000 in
theorem indentureref04_Spoilt.calls (k : Nat) (a0 : ByteArray) (r : Int) (w : World) (h : indentureref04_Spoilt.f k a0 = some r) :
    Calls Tryz.prog 16 #[.string a0] w fun e w' => e = .returned (.int .i64 r) ∧ Drawn0 w w' := by
  have H : (indentureref04_Spoilt.l0 k a0 0) = some r := h
  clear h
  have H' := Aside0.mk H
  clear H
  go_enter Tryz.func16, Tryz.ntmps16
  go_wp2
  go_loopg [3] k (fun kq v3 w' => ∃ (x3_1 : Int), v3 = .int .i64 x3_1 ∧ Aside0 (indentureref04_Spoilt.l0 kq a0 x3_1 = some r) ∧ Aside0 (kq ≤ k) ∧ Drawn0 w w')
  case atStart => exact ⟨(0), (by first | rfl | (simp; done) | (simp [*]; done)), H', ⟨Nat.le_refl _⟩, by repeat (first | exact Drawn0.refl _ | apply Drawn0.step)⟩
  case round =>
    clear H'
    try clear c1
    obtain ⟨x3_1, rfl, HA, HK1, ⟨m1, rfl⟩⟩ := hrel
    cases gk with
    | zero => exact absurd HA.out (by simp [indentureref04_Spoilt.l0])
    | succ k1 =>
      have H := HA.out
      clear HA
      simp only [indentureref04_Spoilt.l0] at H
      by_cases c2 : x3_1 < (a0.size : Int)
      · rw [if_pos c2] at H
        have c2b0 : decide (x3_1 < (a0.size : Int)) = true := decide_eq_true c2
        clear c2
        replace H := Option.bind_eq_some_iff.mp H
        obtain ⟨t125, A30, H⟩ := H
        replace H : (if t125 = 0 then (some x3_1) else (if 0 ≤ x3_1 then (if (bt a0 x3_1) = 0 then (some x3_1) else (indentureref04_Spoilt.l0 k1 a0 (wrap64 (x3_1 + t125)))) else (none))) = some r := H
        have A3 := Aside0.mk A30
        clear A30
        by_cases c4 : t125 = 0
        · rw [if_pos c4] at H
          have c4b0 : (t125 == 0) = true := beq_iff_eq.mpr c4
          have c4b1 : (t125 != 0) = false := bne_eq_false_iff_eq.mpr c4
          clear c4
          obtain rfl := Option.some.inj H
          go_wp2_with (first | ((with_reducible refine gate_callee (f := 31) rfl ?_); refine goesL_ (some 11) rfl rfl Tryz.func31 (by kernel_rfl) rfl #[.string a0, .int .i64 x3_1] rfl (by (try simp only [List.map_toArray, List.map_cons, List.map_nil]); first | done | rfl | (simp only [List.length_drop, List.length_take]; rfl)) ?_; (with_reducible refine (indentureref04_Size.calls k1 a0 x3_1 t125 _ A3.out).mono ?_); rintro e w' ⟨rfl, ⟨nd, rfl⟩⟩; refine ⟨_, rfl, ?_⟩))
          go_ret
          exact ⟨by first | rfl | (simp; done) | (simp [*]; done), by repeat (first | exact Drawn0.refl _ | apply Drawn0.step)⟩
        · rw [if_neg c4] at H
          have c4b0 : (t125 == 0) = false := beq_eq_false_iff_ne.mpr c4
          have c4b1 : (t125 != 0) = true := bne_iff_ne.mpr c4
          by_cases c5 : 0 ≤ x3_1
          · rw [if_pos c5] at H
            have c5b0 : decide (0 ≤ x3_1) = true := decide_eq_true c5
            clear c5
            by_cases c7 : (bt a0 x3_1) = 0
            · rw [if_pos c7] at H
              have c7b0 : ((bt a0 x3_1) == 0) = true := beq_iff_eq.mpr c7
              have c7b1 : ((bt a0 x3_1) != 0) = false := bne_eq_false_iff_eq.mpr c7
              clear c7
              obtain rfl := Option.some.inj H
              go_wp2_with (first | ((with_reducible refine gate_callee (f := 31) rfl ?_); refine goesL_ (some 11) rfl rfl Tryz.func31 (by kernel_rfl) rfl #[.string a0, .int .i64 x3_1] rfl (by (try simp only [List.map_toArray, List.map_cons, List.map_nil]); first | done | rfl | (simp only [List.length_drop, List.length_take]; rfl)) ?_; (with_reducible refine (indentureref04_Size.calls k1 a0 x3_1 t125 _ A3.out).mono ?_); rintro e w' ⟨rfl, ⟨nd, rfl⟩⟩; refine ⟨_, rfl, ?_⟩; have p6 : 0 ≤ (x3_1 : Int) := of_decide_eq_true (by first | (with_reducible assumption) | assumption); have q6 : x3_1 < (a0.size : Int) := of_decide_eq_true (by first | (with_reducible assumption) | assumption); have hx6 := bt_at a0 x3_1; replace p6 := eq_true p6; replace q6 := eq_true q6))
              go_ret
              exact ⟨by first | rfl | (simp; done) | (simp [*]; done), by repeat (first | exact Drawn0.refl _ | apply Drawn0.step)⟩
            · rw [if_neg c7] at H
              have c7b0 : ((bt a0 x3_1) == 0) = false := beq_eq_false_iff_ne.mpr c7
              have c7b1 : ((bt a0 x3_1) != 0) = true := bne_iff_ne.mpr c7
              have H' := Aside0.mk H
              clear H
              go_wp2_with (first | ((with_reducible refine gate_callee (f := 31) rfl ?_); refine goesL_ (some 11) rfl rfl Tryz.func31 (by kernel_rfl) rfl #[.string a0, .int .i64 x3_1] rfl (by (try simp only [List.map_toArray, List.map_cons, List.map_nil]); first | done | rfl | (simp only [List.length_drop, List.length_take]; rfl)) ?_; (with_reducible refine (indentureref04_Size.calls k1 a0 x3_1 t125 _ A3.out).mono ?_); rintro e w' ⟨rfl, ⟨nd, rfl⟩⟩; refine ⟨_, rfl, ?_⟩; have p6 : 0 ≤ (x3_1 : Int) := of_decide_eq_true (by first | (with_reducible assumption) | assumption); have q6 : x3_1 < (a0.size : Int) := of_decide_eq_true (by first | (with_reducible assumption) | assumption); have hx6 := bt_at a0 x3_1; replace p6 := eq_true p6; replace q6 := eq_true q6))
              go_roundg k1
              case measure => have := HK1.out; omega
              case rel => exact ⟨(wrap64 (x3_1 + t125)), (by first | rfl | (simp; done) | (simp [*]; done)), H', ⟨by have := HK1.out; omega⟩, by repeat (first | exact Drawn0.refl _ | apply Drawn0.step)⟩
          · rw [if_neg c5] at H
            exact absurd H (by simp)
      · rw [if_neg c2] at H
        have c2b0 : decide (x3_1 < (a0.size : Int)) = false := decide_eq_false c2
        clear c2
        obtain rfl := Option.some.inj H
        go_wp2
        go_ret
        exact ⟨by first | rfl | (simp; done) | (simp [*]; done), by repeat (first | exact Drawn0.refl _ | apply Drawn0.step)⟩

/-! ### indentureref06_Bad: function 6 -/
def indentureref06_Bad.f (k : Nat) (a0 : ByteArray) : Option (Int) := if (a0.size : Int) > 4000 then (some 7) else ((indentureref04_Spoilt.f k a0).bind fun t126 => (if t126 ≥ 0 then (some 12) else (some 0)))
theorem indentureref06_Bad.mono : ∀ a0 k, LeO (indentureref06_Bad.f k a0) (indentureref06_Bad.f (k + 1) a0) := by
  intro a0 k
  unfold indentureref06_Bad.f
  repeat' first
      | (with_reducible exact indentureref04_Spoilt.mono _ _)
      | (with_reducible exact LeO.refl _)
      | (with_reducible exact LeO.none _)
      | (with_reducible refine LeO.ite ?_ ?_)
      | (with_reducible refine LeO.bind ?_ (fun _ => ?_))
      | exact indentureref04_Spoilt.mono _ _
      | exact LeO.none _
      | refine LeO.ite ?_ ?_
      | refine LeO.bind ?_ (fun _ => ?_)
set_option maxHeartbeats 8000000 in
set_option maxRecDepth 100000 in
theorem indentureref06_Bad.calls (k : Nat) (a0 : ByteArray) (r : Int) (w : World) (h : indentureref06_Bad.f k a0 = some r) :
    Calls Tryz.prog 6 #[.string a0] w fun e w' => e = .returned (.int .i64 r) ∧ Drawn0 w w' := by
  have H : (if (a0.size : Int) > 4000 then (some 7) else ((indentureref04_Spoilt.f k a0).bind fun t126 => (if t126 ≥ 0 then (some 12) else (some 0)))) = some r := h
  clear h
  by_cases c2 : (a0.size : Int) > 4000
  · rw [if_pos c2] at H
    have c2b0 : decide (4000 < (a0.size : Int)) = true := decide_eq_true c2
    have c2b1 : decide (4000 < a0.size) = true := decide_eq_true (by omega)
    clear c2
    obtain rfl := Option.some.inj H
    go_enter Tryz.func6, Tryz.ntmps6
    go_wp2
    go_ret
    exact ⟨by first | rfl | (simp; done) | (simp [*]; done), by repeat (first | exact Drawn0.refl _ | apply Drawn0.step)⟩
  · rw [if_neg c2] at H
    have c2b0 : decide (4000 < (a0.size : Int)) = false := decide_eq_false c2
    have c2b1 : decide (4000 < a0.size) = false := decide_eq_false (by omega)
    clear c2
    replace H := Option.bind_eq_some_iff.mp H
    obtain ⟨t126, A30, H⟩ := H
    replace H : (if t126 ≥ 0 then (some 12) else (some 0)) = some r := H
    have A3 := Aside0.mk A30
    clear A30
    by_cases c4 : t126 ≥ 0
    · rw [if_pos c4] at H
      have c4b0 : decide (0 ≤ t126) = true := decide_eq_true c4
      clear c4
      obtain rfl := Option.some.inj H
      go_enter Tryz.func6, Tryz.ntmps6
      go_wp2_with (first | ((with_reducible refine gate_callee (f := 16) rfl ?_); refine goesL_ (some 7) rfl rfl Tryz.func16 (by kernel_rfl) rfl #[.string a0] rfl (by (try simp only [List.map_toArray, List.map_cons, List.map_nil]); first | done | rfl | (simp only [List.length_drop, List.length_take]; rfl)) ?_; (with_reducible refine (indentureref04_Spoilt.calls k a0 t126 _ A3.out).mono ?_); rintro e w' ⟨rfl, ⟨nd, rfl⟩⟩; refine ⟨_, rfl, ?_⟩))
      go_ret
      exact ⟨by first | rfl | (simp; done) | (simp [*]; done), by repeat (first | exact Drawn0.refl _ | apply Drawn0.step)⟩
    · rw [if_neg c4] at H
      have c4b0 : decide (0 ≤ t126) = false := decide_eq_false c4
      clear c4
      obtain rfl := Option.some.inj H
      go_enter Tryz.func6, Tryz.ntmps6
      go_wp2_with (first | ((with_reducible refine gate_callee (f := 16) rfl ?_); refine goesL_ (some 7) rfl rfl Tryz.func16 (by kernel_rfl) rfl #[.string a0] rfl (by (try simp only [List.map_toArray, List.map_cons, List.map_nil]); first | done | rfl | (simp only [List.length_drop, List.length_take]; rfl)) ?_; (with_reducible refine (indentureref04_Spoilt.calls k a0 t126 _ A3.out).mono ?_); rintro e w' ⟨rfl, ⟨nd, rfl⟩⟩; refine ⟨_, rfl, ?_⟩))
      go_ret
      exact ⟨by first | rfl | (simp; done) | (simp [*]; done), by repeat (first | exact Drawn0.refl _ | apply Drawn0.step)⟩

/-! ### indentureref06_letter: function 42 -/
mutual
def indentureref06_letter.j0 : Nat → ByteArray → Int → Int → Option (Int × Bool × Int)
  | 0, _, _, _ => none
  | k + 1, x0, x3, x4 => indentureref06_letter.l0 k x0 x3 x4 1
def indentureref06_letter.l0 : Nat → ByteArray → Int → Int → Int → Option (Int × Bool × Int)
  | 0, _, _, _, _ => none
  | k + 1, x0, x3, x4, x5 => if x5 < x3 then (if 0 ≤ x5 then (if x5 < (x0.size : Int) then (indentureref06_letter.l0 k x0 x3 (wrap32 ((wrap32 ((wrap32 (64 * x4)) + (wrap32 (bt x0 x5)))) - 128)) (wrap64 (x5 + 1))) else (none)) else (none)) else (some (x4, false, x3))
end
def indentureref06_letter.f (k : Nat) (a0 : ByteArray) : Option (Int × Bool × Int) := (indentureref04_Size.f k a0 0).bind fun t128 => (if 0 < (a0.size : Int) then (if t128 > 1 then ((some (([0, 0, 192, 224, 240] : List Int) : List Int)).bind fun y129 => (if 0 ≤ t128 then (if t128 < (y129.length : Int) then (indentureref06_letter.j0 k a0 t128 (wrap32 ((wrap32 (bt a0 0)) - (rd y129 t128)))) else (none)) else (none))) else (indentureref06_letter.j0 k a0 t128 (wrap32 (bt a0 0)))) else (none))
theorem indentureref06_letter.mono_l : ∀ k, (∀ y0 y1 y2, LeO (indentureref06_letter.j0 k y0 y1 y2) (indentureref06_letter.j0 (k + 1) y0 y1 y2)) ∧ (∀ y0 y1 y2 y3, LeO (indentureref06_letter.l0 k y0 y1 y2 y3) (indentureref06_letter.l0 (k + 1) y0 y1 y2 y3))
  | 0 => ⟨fun _ _ _ r h => by simp [indentureref06_letter.j0] at h, fun _ _ _ _ r h => by simp [indentureref06_letter.l0] at h⟩
  | k + 1 => by
    obtain ⟨ih0, ih1⟩ := indentureref06_letter.mono_l k
    refine ⟨?_, ?_⟩
    · intro y0 y1 y2
      unfold indentureref06_letter.j0
      repeat' first
      | (with_reducible exact ih0 _ _ _)
      | (with_reducible exact ih1 _ _ _ _)
      | (with_reducible exact indentureref04_Size.mono _ _ _)
      | (with_reducible exact LeO.refl _)
      | (with_reducible exact LeO.none _)
      | (with_reducible refine LeO.ite ?_ ?_)
      | (with_reducible refine LeO.bind ?_ (fun _ => ?_))
      | exact ih0 _ _ _
      | exact ih1 _ _ _ _
      | exact indentureref04_Size.mono _ _ _
      | exact LeO.none _
      | refine LeO.ite ?_ ?_
      | refine LeO.bind ?_ (fun _ => ?_)
    · intro y0 y1 y2 y3
      unfold indentureref06_letter.l0
      repeat' first
      | (with_reducible exact ih0 _ _ _)
      | (with_reducible exact ih1 _ _ _ _)
      | (with_reducible exact indentureref04_Size.mono _ _ _)
      | (with_reducible exact LeO.refl _)
      | (with_reducible exact LeO.none _)
      | (with_reducible refine LeO.ite ?_ ?_)
      | (with_reducible refine LeO.bind ?_ (fun _ => ?_))
      | exact ih0 _ _ _
      | exact ih1 _ _ _ _
      | exact indentureref04_Size.mono _ _ _
      | exact LeO.none _
      | refine LeO.ite ?_ ?_
      | refine LeO.bind ?_ (fun _ => ?_)
theorem indentureref06_letter.mono : ∀ a0 k, LeO (indentureref06_letter.f k a0) (indentureref06_letter.f (k + 1) a0) := by
  intro a0 k
  obtain ⟨ih0, ih1⟩ := indentureref06_letter.mono_l k
  unfold indentureref06_letter.f
  repeat' first
      | (with_reducible exact ih0 _ _ _)
      | (with_reducible exact ih1 _ _ _ _)
      | (with_reducible exact indentureref04_Size.mono _ _ _)
      | (with_reducible exact LeO.refl _)
      | (with_reducible exact LeO.none _)
      | (with_reducible refine LeO.ite ?_ ?_)
      | (with_reducible refine LeO.bind ?_ (fun _ => ?_))
      | exact ih0 _ _ _
      | exact ih1 _ _ _ _
      | exact indentureref04_Size.mono _ _ _
      | exact LeO.none _
      | refine LeO.ite ?_ ?_
      | refine LeO.bind ?_ (fun _ => ?_)
def indentureref06_letter.T4 : Bool × List (List Nat × List Nat) := (true, [([], []), ([0], [0]), ([1], [1]), ([], []), ([], []), ([3, 4], [3, 4]), ([5], [5]), ([2, 6], [2, 6]), ([7, 0, 1, 2, 3, 4, 5, 6, 7], [7])])
def indentureref06_letter.B4 : List Nat := [0, 1, 3, 0, 0, 24, 56, 127, 255]
theorem indentureref06_letter.tab4 : rtab .any (opsOf Tryz.f42 4) = indentureref06_letter.T4 := by kernel_rfl
theorem indentureref06_letter.bits4 : waitsOk indentureref06_letter.T4.2 indentureref06_letter.B4 = true := by kernel_rfl

/-! ### indentureref01_Digit: function 73 -/
mutual
def indentureref01_Digit.j0 : Nat → Int → Bool → Option (Int)
  | 0, _, _ => none
  | k + 1, x0, x8 => if x8 = true then (some ((x0 - 48) % 256)) else (if x0 ≥ 97 then (indentureref01_Digit.j1 k x0 (decide (x0 ≤ 102))) else (indentureref01_Digit.j1 k x0 false))
def indentureref01_Digit.j1 : Nat → Int → Bool → Option (Int)
  | 0, _, _ => none
  | k + 1, x0, x17 => if x17 = true then (some (((x0 - 97) % 256) + 10)) else (if x0 ≥ 65 then (if x0 ≤ 70 then (some (((x0 - 65) % 256) + 10)) else (some 99)) else (some 99))
end
def indentureref01_Digit.f (k : Nat) (a0 : Int) : Option (Int) := if a0 ≥ 48 then (indentureref01_Digit.j0 k a0 (decide (a0 ≤ 57))) else (indentureref01_Digit.j0 k a0 false)
theorem indentureref01_Digit.mono_l : ∀ k, (∀ y0 y1, LeO (indentureref01_Digit.j0 k y0 y1) (indentureref01_Digit.j0 (k + 1) y0 y1)) ∧ (∀ y0 y1, LeO (indentureref01_Digit.j1 k y0 y1) (indentureref01_Digit.j1 (k + 1) y0 y1))
  | 0 => ⟨fun _ _ r h => by simp [indentureref01_Digit.j0] at h, fun _ _ r h => by simp [indentureref01_Digit.j1] at h⟩
  | k + 1 => by
    obtain ⟨ih0, ih1⟩ := indentureref01_Digit.mono_l k
    refine ⟨?_, ?_⟩
    · intro y0 y1
      unfold indentureref01_Digit.j0
      repeat' first
      | (with_reducible exact ih0 _ _)
      | (with_reducible exact ih1 _ _)
      | (with_reducible exact LeO.refl _)
      | (with_reducible exact LeO.none _)
      | (with_reducible refine LeO.ite ?_ ?_)
      | (with_reducible refine LeO.bind ?_ (fun _ => ?_))
      | exact ih0 _ _
      | exact ih1 _ _
      | exact LeO.none _
      | refine LeO.ite ?_ ?_
      | refine LeO.bind ?_ (fun _ => ?_)
    · intro y0 y1
      unfold indentureref01_Digit.j1
      repeat' first
      | (with_reducible exact ih0 _ _)
      | (with_reducible exact ih1 _ _)
      | (with_reducible exact LeO.refl _)
      | (with_reducible exact LeO.none _)
      | (with_reducible refine LeO.ite ?_ ?_)
      | (with_reducible refine LeO.bind ?_ (fun _ => ?_))
      | exact ih0 _ _
      | exact ih1 _ _
      | exact LeO.none _
      | refine LeO.ite ?_ ?_
      | refine LeO.bind ?_ (fun _ => ?_)
theorem indentureref01_Digit.mono : ∀ a0 k, LeO (indentureref01_Digit.f k a0) (indentureref01_Digit.f (k + 1) a0) := by
  intro a0 k
  obtain ⟨ih0, ih1⟩ := indentureref01_Digit.mono_l k
  unfold indentureref01_Digit.f
  repeat' first
      | (with_reducible exact ih0 _ _)
      | (with_reducible exact ih1 _ _)
      | (with_reducible exact LeO.refl _)
      | (with_reducible exact LeO.none _)
      | (with_reducible refine LeO.ite ?_ ?_)
      | (with_reducible refine LeO.bind ?_ (fun _ => ?_))
      | exact ih0 _ _
      | exact ih1 _ _
      | exact LeO.none _
      | refine LeO.ite ?_ ?_
      | refine LeO.bind ?_ (fun _ => ?_)
set_option maxHeartbeats 8000000 in
set_option maxRecDepth 100000 in
theorem indentureref01_Digit.calls (k : Nat) (a0 : Int) (r : Int) (w : World) (h : indentureref01_Digit.f k a0 = some r) :
    Calls Tryz.prog 73 #[.int .u8 a0] w fun e w' => e = .returned (.int .i64 r) ∧ Drawn0 w w' := by
  have H : (if a0 ≥ 48 then (indentureref01_Digit.j0 k a0 (decide (a0 ≤ 57))) else (indentureref01_Digit.j0 k a0 false)) = some r := h
  clear h
  have HC2 := Aside0.mk H
  clear H
  go_enter Tryz.func73, Tryz.ntmps73
  go_upto_region 1 with (fail)
  go_cut [8] (fun v8 wc => ∃ (kq : Nat) (x8_1 : Bool), v8 = .bool x8_1 ∧ Aside0 (indentureref01_Digit.j0 kq a0 x8_1 = some r) ∧ Aside0 (kq ≤ k) ∧ Drawn0 w wc)
  case first =>
    have H := HC2.out
    clear HC2
    by_cases c3 : a0 ≥ 48
    · rw [if_pos c3] at H
      have c3b0 : decide (48 ≤ a0) = true := decide_eq_true c3
      clear c3
      (first | rw [c3b0] | (simp only [i64_w, i32_w]; rw [c3b0]) | skip)
      have H' := Aside0.mk H
      clear H
      go_wp2
      go_meet
      case rel => exact ⟨_, (decide (a0 ≤ 57)), (by first | rfl | (simp; done) | (simp [*]; done)), H', ⟨by first | omega | exact Nat.le_refl _⟩, by repeat (first | exact Drawn0.refl _ | apply Drawn0.step)⟩
    · rw [if_neg c3] at H
      have c3b0 : decide (48 ≤ a0) = false := decide_eq_false c3
      clear c3
      (first | rw [c3b0] | (simp only [i64_w, i32_w]; rw [c3b0]) | skip)
      have H' := Aside0.mk H
      clear H
      go_wp2
      go_meet
      case rel => exact ⟨_, (false), (by first | rfl | (simp; done) | (simp [*]; done)), H', ⟨by first | omega | exact Nat.le_refl _⟩, by repeat (first | exact Drawn0.refl _ | apply Drawn0.step)⟩
  case rest =>
    clear HC2
    try clear p2
    try clear c3
    try clear c3b0
    obtain ⟨kq, x8_1, rfl, HA, HJ1, ⟨mc1, rfl⟩⟩ := hcut
    cases kq with
    | zero => exact absurd HA.out (by simp [indentureref01_Digit.j0])
    | succ kj1 =>
      have H := HA.out
      clear HA
      simp only [indentureref01_Digit.j0] at H
      by_cases c4 : x8_1 = true
      · subst c4
        have H1 : (some ((a0 - 48) % 256)) = some r := by rw [if_pos rfl] at H; exact H
        clear H
        have H := H1
        clear H1
        obtain rfl := Option.some.inj H
        go_wp2
        go_ret
        exact ⟨by first | rfl | (simp; done) | (simp [*]; done), by repeat (first | exact Drawn0.refl _ | apply Drawn0.step)⟩
      · replace c4 := Bool.eq_false_iff.mpr c4
        subst c4
        have H1 : (if a0 ≥ 97 then (indentureref01_Digit.j1 kj1 a0 (decide (a0 ≤ 102))) else (indentureref01_Digit.j1 kj1 a0 false)) = some r := by rw [if_neg (show ¬ (false = true) by decide)] at H; exact H
        clear H
        have H := H1
        clear H1
        have HC5 := Aside0.mk H
        clear H
        go_upto_region 3 with (fail)
        go_cut [17] (fun v17 wc => ∃ (kq : Nat) (x17_4 : Bool), v17 = .bool x17_4 ∧ Aside0 (indentureref01_Digit.j1 kq a0 x17_4 = some r) ∧ Aside0 (kq ≤ kj1) ∧ Drawn0 w wc)
        case first =>
          have H := HC5.out
          clear HC5
          by_cases c6 : a0 ≥ 97
          · rw [if_pos c6] at H
            have c6b0 : decide (97 ≤ a0) = true := decide_eq_true c6
            clear c6
            (first | rw [c6b0] | (simp only [i64_w, i32_w]; rw [c6b0]) | skip)
            have H' := Aside0.mk H
            clear H
            go_wp2
            go_meet
            case rel => exact ⟨_, (decide (a0 ≤ 102)), (by first | rfl | (simp; done) | (simp [*]; done)), H', ⟨by have := HJ1.out; first | omega | exact Nat.le_refl _⟩, by repeat (first | exact Drawn0.refl _ | apply Drawn0.step)⟩
          · rw [if_neg c6] at H
            have c6b0 : decide (97 ≤ a0) = false := decide_eq_false c6
            clear c6
            (first | rw [c6b0] | (simp only [i64_w, i32_w]; rw [c6b0]) | skip)
            have H' := Aside0.mk H
            clear H
            go_wp2
            go_meet
            case rel => exact ⟨_, (false), (by first | rfl | (simp; done) | (simp [*]; done)), H', ⟨by have := HJ1.out; first | omega | exact Nat.le_refl _⟩, by repeat (first | exact Drawn0.refl _ | apply Drawn0.step)⟩
        case rest =>
          clear HC5
          try clear c1
          try clear p2
          try clear c3
          try clear c3b0
          try clear c4
          try clear c6
          try clear c6b0
          try clear p2
          obtain ⟨kq, x17_4, rfl, HA, HJ4, ⟨mc4, rfl⟩⟩ := hcut
          cases kq with
          | zero => exact absurd HA.out (by simp [indentureref01_Digit.j1])
          | succ kj4 =>
            have H := HA.out
            clear HA
            simp only [indentureref01_Digit.j1] at H
            by_cases c7 : x17_4 = true
            · subst c7
              have H1 : (some (((a0 - 97) % 256) + 10)) = some r := by rw [if_pos rfl] at H; exact H
              clear H
              have H := H1
              clear H1
              obtain rfl := Option.some.inj H
              go_wp2
              go_ret
              exact ⟨by first | rfl | (simp; done) | (simp [*]; done), by repeat (first | exact Drawn0.refl _ | apply Drawn0.step)⟩
            · replace c7 := Bool.eq_false_iff.mpr c7
              subst c7
              have H1 : (if a0 ≥ 65 then (if a0 ≤ 70 then (some (((a0 - 65) % 256) + 10)) else (some 99)) else (some 99)) = some r := by rw [if_neg (show ¬ (false = true) by decide)] at H; exact H
              clear H
              have H := H1
              clear H1
              by_cases c8 : a0 ≥ 65
              · rw [if_pos c8] at H
                have c8b0 : decide (65 ≤ a0) = true := decide_eq_true c8
                clear c8
                by_cases c9 : a0 ≤ 70
                · rw [if_pos c9] at H
                  have c9b0 : decide (a0 ≤ 70) = true := decide_eq_true c9
                  clear c9
                  obtain rfl := Option.some.inj H
                  go_wp2
                  go_ret
                  exact ⟨by first | rfl | (simp; done) | (simp [*]; done), by repeat (first | exact Drawn0.refl _ | apply Drawn0.step)⟩
                · rw [if_neg c9] at H
                  have c9b0 : decide (a0 ≤ 70) = false := decide_eq_false c9
                  clear c9
                  obtain rfl := Option.some.inj H
                  go_wp2
                  go_ret
                  exact ⟨by first | rfl | (simp; done) | (simp [*]; done), by repeat (first | exact Drawn0.refl _ | apply Drawn0.step)⟩
              · rw [if_neg c8] at H
                have c8b0 : decide (65 ≤ a0) = false := decide_eq_false c8
                clear c8
                obtain rfl := Option.some.inj H
                go_wp2
                go_ret
                exact ⟨by first | rfl | (simp; done) | (simp [*]; done), by repeat (first | exact Drawn0.refl _ | apply Drawn0.step)⟩

/-! ### indentureref01_Syntax: function 72 -/
def indentureref01_Syntax.l0 : Nat → ByteArray → Int → Int → Option (Bool)
  | 0, _, _, _ => none
  | k + 1, x0, x1, x5 => if x5 < (x0.size : Int) then (if 0 ≤ x5 then ((indentureref01_Digit.f k (bt x0 x5)).bind fun t133 => (if t133 ≥ x1 then (some false) else (indentureref01_Syntax.l0 k x0 x1 (wrap64 (x5 + 1))))) else (none)) else (some (decide ((x0.size : Int) > 0)))
def indentureref01_Syntax.f (k : Nat) (a0 : ByteArray) (a1 : Int) : Option (Bool) := indentureref01_Syntax.l0 k a0 a1 0
theorem indentureref01_Syntax.mono_l : ∀ k, (∀ y0 y1 y2, LeO (indentureref01_Syntax.l0 k y0 y1 y2) (indentureref01_Syntax.l0 (k + 1) y0 y1 y2))
  | 0 => fun _ _ _ r h => by simp [indentureref01_Syntax.l0] at h
  | k + 1 => by
    have ih0 := indentureref01_Syntax.mono_l k
    · intro y0 y1 y2
      unfold indentureref01_Syntax.l0
      repeat' first
      | (with_reducible exact ih0 _ _ _)
      | (with_reducible exact indentureref01_Digit.mono _ _)
      | (with_reducible exact LeO.refl _)
      | (with_reducible exact LeO.none _)
      | (with_reducible refine LeO.ite ?_ ?_)
      | (with_reducible refine LeO.bind ?_ (fun _ => ?_))
      | exact ih0 _ _ _
      | exact indentureref01_Digit.mono _ _
      | exact LeO.none _
      | refine LeO.ite ?_ ?_
      | refine LeO.bind ?_ (fun _ => ?_)
theorem indentureref01_Syntax.mono : ∀ a0 a1 k, LeO (indentureref01_Syntax.f k a0 a1) (indentureref01_Syntax.f (k + 1) a0 a1) := by
  intro a0 a1 k
  have ih0 := indentureref01_Syntax.mono_l k
  unfold indentureref01_Syntax.f
  repeat' first
      | (with_reducible exact ih0 _ _ _)
      | (with_reducible exact indentureref01_Digit.mono _ _)
      | (with_reducible exact LeO.refl _)
      | (with_reducible exact LeO.none _)
      | (with_reducible refine LeO.ite ?_ ?_)
      | (with_reducible refine LeO.bind ?_ (fun _ => ?_))
      | exact ih0 _ _ _
      | exact indentureref01_Digit.mono _ _
      | exact LeO.none _
      | refine LeO.ite ?_ ?_
      | refine LeO.bind ?_ (fun _ => ?_)
set_option maxHeartbeats 8000000 in
set_option maxRecDepth 100000 in
theorem indentureref01_Syntax.calls (k : Nat) (a0 : ByteArray) (a1 : Int) (r : Bool) (w : World) (h : indentureref01_Syntax.f k a0 a1 = some r) :
    Calls Tryz.prog 72 #[.string a0, .int .i64 a1] w fun e w' => e = .returned (.bool r) ∧ Drawn0 w w' := by
  have H : (indentureref01_Syntax.l0 k a0 a1 0) = some r := h
  clear h
  have H' := Aside0.mk H
  clear H
  go_enter Tryz.func72, Tryz.ntmps72
  go_wp2
  go_loopg [5] k (fun kq v5 w' => ∃ (x5_1 : Int), v5 = .int .i64 x5_1 ∧ Aside0 (indentureref01_Syntax.l0 kq a0 a1 x5_1 = some r) ∧ Aside0 (kq ≤ k) ∧ Drawn0 w w')
  case atStart => exact ⟨(0), (by first | rfl | (simp; done) | (simp [*]; done)), H', ⟨Nat.le_refl _⟩, by repeat (first | exact Drawn0.refl _ | apply Drawn0.step)⟩
  case round =>
    clear H'
    try clear p2
    obtain ⟨x5_1, rfl, HA, HK1, ⟨m1, rfl⟩⟩ := hrel
    cases gk with
    | zero => exact absurd HA.out (by simp [indentureref01_Syntax.l0])
    | succ k1 =>
      have H := HA.out
      clear HA
      simp only [indentureref01_Syntax.l0] at H
      by_cases c3 : x5_1 < (a0.size : Int)
      · rw [if_pos c3] at H
        have c3b0 : decide (x5_1 < (a0.size : Int)) = true := decide_eq_true c3
        clear c3
        by_cases c4 : 0 ≤ x5_1
        · rw [if_pos c4] at H
          have c4b0 : decide (0 ≤ x5_1) = true := decide_eq_true c4
          clear c4
          replace H := Option.bind_eq_some_iff.mp H
          obtain ⟨t133, A60, H⟩ := H
          replace H : (if t133 ≥ a1 then (some false) else (indentureref01_Syntax.l0 k1 a0 a1 (wrap64 (x5_1 + 1)))) = some r := H
          have A6 := Aside0.mk A60
          clear A60
          by_cases c7 : t133 ≥ a1
          · rw [if_pos c7] at H
            have c7b0 : decide (a1 ≤ t133) = true := decide_eq_true c7
            clear c7
            obtain rfl := Option.some.inj H
            have p5 : 0 ≤ (x5_1 : Int) := of_decide_eq_true (by first | (with_reducible assumption) | assumption)
            have q5 : x5_1 < (a0.size : Int) := of_decide_eq_true (by first | (with_reducible assumption) | assumption)
            have hx5 := bt_at a0 x5_1
            replace p5 := eq_true p5
            replace q5 := eq_true q5
            go_wp2_with (first | ((with_reducible refine gate_callee (f := 73) rfl ?_); refine goesL_ (some 15) rfl rfl Tryz.func73 (by kernel_rfl) rfl #[.int .u8 (bt a0 x5_1)] rfl (by (try simp only [List.map_toArray, List.map_cons, List.map_nil]); first | done | rfl | (simp only [List.length_drop, List.length_take]; rfl)) ?_; (with_reducible refine (indentureref01_Digit.calls k1 (bt a0 x5_1) t133 _ A6.out).mono ?_); rintro e w' ⟨rfl, ⟨nd, rfl⟩⟩; refine ⟨_, rfl, ?_⟩))
            go_ret
            exact ⟨by first | rfl | (simp; done) | (simp [*]; done), by repeat (first | exact Drawn0.refl _ | apply Drawn0.step)⟩
          · rw [if_neg c7] at H
            have c7b0 : decide (a1 ≤ t133) = false := decide_eq_false c7
            clear c7
            have H' := Aside0.mk H
            clear H
            have p5 : 0 ≤ (x5_1 : Int) := of_decide_eq_true (by first | (with_reducible assumption) | assumption)
            have q5 : x5_1 < (a0.size : Int) := of_decide_eq_true (by first | (with_reducible assumption) | assumption)
            have hx5 := bt_at a0 x5_1
            replace p5 := eq_true p5
            replace q5 := eq_true q5
            go_wp2_with (first | ((with_reducible refine gate_callee (f := 73) rfl ?_); refine goesL_ (some 15) rfl rfl Tryz.func73 (by kernel_rfl) rfl #[.int .u8 (bt a0 x5_1)] rfl (by (try simp only [List.map_toArray, List.map_cons, List.map_nil]); first | done | rfl | (simp only [List.length_drop, List.length_take]; rfl)) ?_; (with_reducible refine (indentureref01_Digit.calls k1 (bt a0 x5_1) t133 _ A6.out).mono ?_); rintro e w' ⟨rfl, ⟨nd, rfl⟩⟩; refine ⟨_, rfl, ?_⟩))
            go_roundg k1
            case measure => have := HK1.out; omega
            case rel => exact ⟨(wrap64 (x5_1 + 1)), (by first | rfl | (simp; done) | (simp [*]; done)), H', ⟨by have := HK1.out; omega⟩, by repeat (first | exact Drawn0.refl _ | apply Drawn0.step)⟩
        · rw [if_neg c4] at H
          exact absurd H (by simp)
      · rw [if_neg c3] at H
        have c3b0 : decide (x5_1 < (a0.size : Int)) = false := decide_eq_false c3
        clear c3
        obtain rfl := Option.some.inj H
        go_wp2
        go_ret
        exact ⟨by first | rfl | (simp; done) | (simp [*]; done), by repeat (first | exact Drawn0.refl _ | apply Drawn0.step)⟩

end Go.Proofs.YtgfdfmgocijdgaaGreatDoor.PLitTexts
