/- Plain functions of the checked program, each with the proof that the call comes to it: printed by the kit's program for this claim. -/
import Derived.Test.YtgfdfmgocijdgaaGreatDoorPRx0
import Derived.Test.YtgfdfmgocijdgaaGreatDoorPRx1
namespace Go.Proofs.YtgfdfmgocijdgaaGreatDoor.PLitTexts
open Go.RowKit Go.Proofs.YtgfdfmgocijdgaaGreatDoorW.PrintWords Go.Proofs.YtgfdfmgocijdgaaGreatDoorW.PrintLast Go.Proofs.YtgfdfmgocijdgaaGreatDoorW.PrintMore
attribute [local go_sem] max2_int min2_int max_two min_two max_three min_three max_four min_four   -- for this text's walks alone
set_option linter.unusedVariables false
set_option linter.unusedSimpArgs false

/-! ### indentureref04_Size: function 31 -/
mutual
def indentureref04_Size.j0 : Nat → ByteArray → Int → Int → Bool → Option (Int)
  | 0, _, _, _, _ => none
  | k + 1, x0, x1, x5, x22 => if x22 = true then (some 2) else (if x5 ≥ 224 then (if x5 ≤ 239 then ((indentureref04_tail.f x0 (wrap64 (x1 + 1))).bind fun t120 => (if t120 = true then ((indentureref04_tail.f x0 (wrap64 (x1 + 2))).bind fun t121 => (indentureref04_Size.j1 k x0 x1 x5 t121)) else (indentureref04_Size.j1 k x0 x1 x5 false))) else (indentureref04_Size.j1 k x0 x1 x5 false)) else (indentureref04_Size.j1 k x0 x1 x5 false))
def indentureref04_Size.j1 : Nat → ByteArray → Int → Int → Bool → Option (Int)
  | 0, _, _, _, _ => none
  | k + 1, x0, x1, x5, x40 => if x40 = true then (if x5 = 224 then (if 0 ≤ (wrap64 (x1 + 1)) then (if (wrap64 (x1 + 1)) < (x0.size : Int) then (if (bt x0 (wrap64 (x1 + 1))) < 160 then (some 0) else (if x5 = 237 then (if (bt x0 (wrap64 (x1 + 1))) > 159 then (some 0) else (some 3)) else (some 3))) else (none)) else (none)) else (if x5 = 237 then (if 0 ≤ (wrap64 (x1 + 1)) then (if (wrap64 (x1 + 1)) < (x0.size : Int) then (if (bt x0 (wrap64 (x1 + 1))) > 159 then (some 0) else (some 3)) else (none)) else (none)) else (some 3))) else (if x5 ≥ 240 then (if x5 ≤ 244 then ((indentureref04_tail.f x0 (wrap64 (x1 + 1))).bind fun t122 => (if t122 = true then ((indentureref04_tail.f x0 (wrap64 (x1 + 2))).bind fun t123 => (if t123 = true then ((indentureref04_tail.f x0 (wrap64 (x1 + 3))).bind fun t124 => (indentureref04_Size.j2 k x0 x1 x5 t124)) else (indentureref04_Size.j2 k x0 x1 x5 false))) else (indentureref04_Size.j2 k x0 x1 x5 false))) else (indentureref04_Size.j2 k x0 x1 x5 false)) else (indentureref04_Size.j2 k x0 x1 x5 false))
def indentureref04_Size.j2 : Nat → ByteArray → Int → Int → Bool → Option (Int)
  | 0, _, _, _, _ => none
  | k + 1, x0, x1, x5, x84 => if x84 = true then (if x5 = 240 then (if 0 ≤ (wrap64 (x1 + 1)) then (if (wrap64 (x1 + 1)) < (x0.size : Int) then (if (bt x0 (wrap64 (x1 + 1))) < 144 then (some 0) else (if x5 = 244 then (if (bt x0 (wrap64 (x1 + 1))) > 143 then (some 0) else (some 4)) else (some 4))) else (none)) else (none)) else (if x5 = 244 then (if 0 ≤ (wrap64 (x1 + 1)) then (if (wrap64 (x1 + 1)) < (x0.size : Int) then (if (bt x0 (wrap64 (x1 + 1))) > 143 then (some 0) else (some 4)) else (none)) else (none)) else (some 4))) else (some 0)
end
def indentureref04_Size.f (k : Nat) (a0 : ByteArray) (a1 : Int) : Option (Int) := if 0 ≤ a1 then (if a1 < (a0.size : Int) then (if (bt a0 a1) < 128 then (some 1) else (if (bt a0 a1) ≥ 194 then (if (bt a0 a1) ≤ 223 then ((indentureref04_tail.f a0 (wrap64 (a1 + 1))).bind fun t119 => (indentureref04_Size.j0 k a0 a1 (bt a0 a1) t119)) else (indentureref04_Size.j0 k a0 a1 (bt a0 a1) false)) else (indentureref04_Size.j0 k a0 a1 (bt a0 a1) false))) else (none)) else (none)
theorem indentureref04_Size.mono_l : ∀ k, (∀ y0 y1 y2 y3, LeO (indentureref04_Size.j0 k y0 y1 y2 y3) (indentureref04_Size.j0 (k + 1) y0 y1 y2 y3)) ∧ (∀ y0 y1 y2 y3, LeO (indentureref04_Size.j1 k y0 y1 y2 y3) (indentureref04_Size.j1 (k + 1) y0 y1 y2 y3)) ∧ (∀ y0 y1 y2 y3, LeO (indentureref04_Size.j2 k y0 y1 y2 y3) (indentureref04_Size.j2 (k + 1) y0 y1 y2 y3))
  | 0 => ⟨fun _ _ _ _ r h => by simp [indentureref04_Size.j0] at h, fun _ _ _ _ r h => by simp [indentureref04_Size.j1] at h, fun _ _ _ _ r h => by simp [indentureref04_Size.j2] at h⟩
  | k + 1 => by
    obtain ⟨ih0, ih1, ih2⟩ := indentureref04_Size.mono_l k
    refine ⟨?_, ?_, ?_⟩
    · intro y0 y1 y2 y3
      unfold indentureref04_Size.j0
      repeat' first
      | (with_reducible exact ih0 _ _ _ _)
      | (with_reducible exact ih1 _ _ _ _)
      | (with_reducible exact ih2 _ _ _ _)
      | (with_reducible exact LeO.refl _)
      | (with_reducible exact LeO.none _)
      | (with_reducible refine LeO.ite ?_ ?_)
      | (with_reducible refine LeO.bind ?_ (fun _ => ?_))
      | exact ih0 _ _ _ _
      | exact ih1 _ _ _ _
      | exact ih2 _ _ _ _
      | exact LeO.none _
      | refine LeO.ite ?_ ?_
      | refine LeO.bind ?_ (fun _ => ?_)
    · intro y0 y1 y2 y3
      unfold indentureref04_Size.j1
      repeat' first
      | (with_reducible exact ih0 _ _ _ _)
      | (with_reducible exact ih1 _ _ _ _)
      | (with_reducible exact ih2 _ _ _ _)
      | (with_reducible exact LeO.refl _)
      | (with_reducible exact LeO.none _)
      | (with_reducible refine LeO.ite ?_ ?_)
      | (with_reducible refine LeO.bind ?_ (fun _ => ?_))
      | exact ih0 _ _ _ _
      | exact ih1 _ _ _ _
      | exact ih2 _ _ _ _
      | exact LeO.none _
      | refine LeO.ite ?_ ?_
      | refine LeO.bind ?_ (fun _ => ?_)
    · intro y0 y1 y2 y3
      unfold indentureref04_Size.j2
      repeat' first
      | (with_reducible exact ih0 _ _ _ _)
      | (with_reducible exact ih1 _ _ _ _)
      | (with_reducible exact ih2 _ _ _ _)
      | (with_reducible exact LeO.refl _)
      | (with_reducible exact LeO.none _)
      | (with_reducible refine LeO.ite ?_ ?_)
      | (with_reducible refine LeO.bind ?_ (fun _ => ?_))
      | exact ih0 _ _ _ _
      | exact ih1 _ _ _ _
      | exact ih2 _ _ _ _
      | exact LeO.none _
      | refine LeO.ite ?_ ?_
      | refine LeO.bind ?_ (fun _ => ?_)
theorem indentureref04_Size.mono : ∀ a0 a1 k, LeO (indentureref04_Size.f k a0 a1) (indentureref04_Size.f (k + 1) a0 a1) := by
  intro a0 a1 k
  obtain ⟨ih0, ih1, ih2⟩ := indentureref04_Size.mono_l k
  unfold indentureref04_Size.f
  repeat' first
      | (with_reducible exact ih0 _ _ _ _)
      | (with_reducible exact ih1 _ _ _ _)
      | (with_reducible exact ih2 _ _ _ _)
      | (with_reducible exact LeO.refl _)
      | (with_reducible exact LeO.none _)
      | (with_reducible refine LeO.ite ?_ ?_)
      | (with_reducible refine LeO.bind ?_ (fun _ => ?_))
      | exact ih0 _ _ _ _
      | exact ih1 _ _ _ _
      | exact ih2 _ _ _ _
      | exact LeO.none _
      | refine LeO.ite ?_ ?_
      | refine LeO.bind ?_ (fun _ => ?_)
set_option maxHeartbeats 8000000 in
set_option maxRecDepth 100000 in
theorem indentureref04_Size.calls (k : Nat) (a0 : ByteArray) (a1 : Int) (r : Int) (w : World) (h : indentureref04_Size.f k a0 a1 = some r) :
    Calls Tryz.prog 31 #[.string a0, .int .i64 a1] w fun e w' => e = .returned (.int .i64 r) ∧ Drawn0 w w' := by
  have H : (if 0 ≤ a1 then (if a1 < (a0.size : Int) then (if (bt a0 a1) < 128 then (some 1) else (if (bt a0 a1) ≥ 194 then (if (bt a0 a1) ≤ 223 then ((indentureref04_tail.f a0 (wrap64 (a1 + 1))).bind fun t119 => (indentureref04_Size.j0 k a0 a1 (bt a0 a1) t119)) else (indentureref04_Size.j0 k a0 a1 (bt a0 a1) false)) else (indentureref04_Size.j0 k a0 a1 (bt a0 a1) false))) else (none)) else (none)) = some r := h
  clear h
  by_cases c3 : 0 ≤ a1
  · rw [if_pos c3] at H
    have c3b0 : decide (0 ≤ a1) = true := decide_eq_true c3
    clear c3
    by_cases c4 : a1 < (a0.size : Int)
    · rw [if_pos c4] at H
      have c4b0 : decide (a1 < (a0.size : Int)) = true := decide_eq_true c4
      clear c4
      by_cases c6 : (bt a0 a1) < 128
      · rw [if_pos c6] at H
        have c6b0 : decide ((bt a0 a1) < 128) = true := decide_eq_true c6
        clear c6
        obtain rfl := Option.some.inj H
        have p5 : 0 ≤ (a1 : Int) := of_decide_eq_true (by first | (with_reducible assumption) | assumption)
        have q5 : a1 < (a0.size : Int) := of_decide_eq_true (by first | (with_reducible assumption) | assumption)
        have hx5 := bt_at a0 a1
        replace p5 := eq_true p5
        replace q5 := eq_true q5
        go_enter Tryz.func31, Tryz.ntmps31
        go_wp2
        go_ret
        exact ⟨by first | rfl | (simp; done) | (simp [*]; done), by repeat (first | exact Drawn0.refl _ | apply Drawn0.step)⟩
      · rw [if_neg c6] at H
        have c6b0 : decide ((bt a0 a1) < 128) = false := decide_eq_false c6
        clear c6
        have HC7 := Aside0.mk H
        clear H
        have p5 : 0 ≤ (a1 : Int) := of_decide_eq_true (by first | (with_reducible assumption) | assumption)
        have q5 : a1 < (a0.size : Int) := of_decide_eq_true (by first | (with_reducible assumption) | assumption)
        have hx5 := bt_at a0 a1
        replace p5 := eq_true p5
        replace q5 := eq_true q5
        go_enter Tryz.func31, Tryz.ntmps31
        go_upto_region 4 with (fail)
        go_cut [22] (fun v22 wc => ∃ (kq : Nat) (x22_6 : Bool), v22 = .bool x22_6 ∧ Aside0 (indentureref04_Size.j0 kq a0 a1 (bt a0 a1) x22_6 = some r) ∧ Aside0 (kq ≤ k) ∧ Drawn0 w wc)
        case first =>
          have H := HC7.out
          clear HC7
          by_cases c8 : (bt a0 a1) ≥ 194
          · rw [if_pos c8] at H
            have c8b0 : decide (194 ≤ (bt a0 a1)) = true := decide_eq_true c8
            clear c8
            (first | rw [c8b0] | (simp only [i64_w, i32_w]; rw [c8b0]) | skip)
            by_cases c9 : (bt a0 a1) ≤ 223
            · rw [if_pos c9] at H
              have c9b0 : decide ((bt a0 a1) ≤ 223) = true := decide_eq_true c9
              clear c9
              replace H := Option.bind_eq_some_iff.mp H
              obtain ⟨t119, A100, H⟩ := H
              replace H : (indentureref04_Size.j0 k a0 a1 (bt a0 a1) t119) = some r := H
              have A10 := Aside0.mk A100
              clear A100
              have H' := Aside0.mk H
              clear H
              go_wp2_with (first | (go_at_call 53; (with_reducible refine (indentureref04_tail.calls a0 (wrap64 (a1 + 1)) t119 _ A10.out).mono ?_); rintro e w' ⟨rfl, ⟨nd, rfl⟩⟩))
              go_meet
              case rel => exact ⟨_, (t119), (by first | rfl | (simp; done) | (simp [*]; done)), H', ⟨by first | omega | exact Nat.le_refl _⟩, by repeat (first | exact Drawn0.refl _ | apply Drawn0.step)⟩
            · rw [if_neg c9] at H
              have c9b0 : decide ((bt a0 a1) ≤ 223) = false := decide_eq_false c9
              clear c9
              have H' := Aside0.mk H
              clear H
              go_wp2
              go_meet
              case rel => exact ⟨_, (false), (by first | rfl | (simp; done) | (simp [*]; done)), H', ⟨by first | omega | exact Nat.le_refl _⟩, by repeat (first | exact Drawn0.refl _ | apply Drawn0.step)⟩
          · rw [if_neg c8] at H
            have c8b0 : decide (194 ≤ (bt a0 a1)) = false := decide_eq_false c8
            clear c8
            (first | rw [c8b0] | (simp only [i64_w, i32_w]; rw [c8b0]) | skip)
            have H' := Aside0.mk H
            clear H
            go_wp2
            go_meet
            case rel => exact ⟨_, (false), (by first | rfl | (simp; done) | (simp [*]; done)), H', ⟨by first | omega | exact Nat.le_refl _⟩, by repeat (first | exact Drawn0.refl _ | apply Drawn0.step)⟩
        case rest =>
          clear HC7
          try clear p2
          try clear c3
          try clear c3b0
          try clear c4
          try clear c4b0
          try clear p5
          try clear q5
          try clear hx5
          try clear c6
          try clear c6b0
          try clear p6
          try clear c8
          try clear c8b0
          try clear c9
          try clear c9b0
          try clear p5
          try clear q5
          obtain ⟨kq, x22_6, rfl, HA, HJ6, ⟨mc6, rfl⟩⟩ := hcut
          cases kq with
          | zero => exact absurd HA.out (by simp [indentureref04_Size.j0])
          | succ kj6 =>
            have H := HA.out
            clear HA
            simp only [indentureref04_Size.j0] at H
            by_cases c11 : x22_6 = true
            · subst c11
              have H1 : (some 2) = some r := by rw [if_pos rfl] at H; exact H
              clear H
              have H := H1
              clear H1
              obtain rfl := Option.some.inj H
              go_wp2
              go_ret
              exact ⟨by first | rfl | (simp; done) | (simp [*]; done), by repeat (first | exact Drawn0.refl _ | apply Drawn0.step)⟩
            · replace c11 := Bool.eq_false_iff.mpr c11
              subst c11
              have H1 : (if (bt a0 a1) ≥ 224 then (if (bt a0 a1) ≤ 239 then ((indentureref04_tail.f a0 (wrap64 (a1 + 1))).bind fun t120 => (if t120 = true then ((indentureref04_tail.f a0 (wrap64 (a1 + 2))).bind fun t121 => (indentureref04_Size.j1 kj6 a0 a1 (bt a0 a1) t121)) else (indentureref04_Size.j1 kj6 a0 a1 (bt a0 a1) false))) else (indentureref04_Size.j1 kj6 a0 a1 (bt a0 a1) false)) else (indentureref04_Size.j1 kj6 a0 a1 (bt a0 a1) false)) = some r := by rw [if_neg (show ¬ (false = true) by decide)] at H; exact H
              clear H
              have H := H1
              clear H1
              have HC12 := Aside0.mk H
              clear H
              go_upto_region 6 with (fail)
              go_cut [40] (fun v40 wc => ∃ (kq : Nat) (x40_11 : Bool), v40 = .bool x40_11 ∧ Aside0 (indentureref04_Size.j1 kq a0 a1 (bt a0 a1) x40_11 = some r) ∧ Aside0 (kq ≤ kj6) ∧ Drawn0 w wc)
              case first =>
                have H := HC12.out
                clear HC12
                by_cases c13 : (bt a0 a1) ≥ 224
                · rw [if_pos c13] at H
                  have c13b0 : decide (224 ≤ (bt a0 a1)) = true := decide_eq_true c13
                  clear c13
                  (first | rw [c13b0] | (simp only [i64_w, i32_w]; rw [c13b0]) | skip)
                  by_cases c14 : (bt a0 a1) ≤ 239
                  · rw [if_pos c14] at H
                    have c14b0 : decide ((bt a0 a1) ≤ 239) = true := decide_eq_true c14
                    clear c14
                    replace H := Option.bind_eq_some_iff.mp H
                    obtain ⟨t120, A150, H⟩ := H
                    replace H : (if t120 = true then ((indentureref04_tail.f a0 (wrap64 (a1 + 2))).bind fun t121 => (indentureref04_Size.j1 kj6 a0 a1 (bt a0 a1) t121)) else (indentureref04_Size.j1 kj6 a0 a1 (bt a0 a1) false)) = some r := H
                    have A15 := Aside0.mk A150
                    clear A150
                    by_cases c16 : t120 = true
                    · subst c16
                      have H1 : ((indentureref04_tail.f a0 (wrap64 (a1 + 2))).bind fun t121 => (indentureref04_Size.j1 kj6 a0 a1 (bt a0 a1) t121)) = some r := by rw [if_pos rfl] at H; exact H
                      clear H
                      have H := H1
                      clear H1
                      replace H := Option.bind_eq_some_iff.mp H
                      obtain ⟨t121, A170, H⟩ := H
                      replace H : (indentureref04_Size.j1 kj6 a0 a1 (bt a0 a1) t121) = some r := H
                      have A17 := Aside0.mk A170
                      clear A170
                      have H' := Aside0.mk H
                      clear H
                      go_wp2_with (first | (go_at_call 53; (with_reducible refine (indentureref04_tail.calls a0 (wrap64 (a1 + 1)) true _ A15.out).mono ?_); rintro e w' ⟨rfl, ⟨nd, rfl⟩⟩) | (go_at_call 53; (with_reducible refine (indentureref04_tail.calls a0 (wrap64 (a1 + 2)) t121 _ A17.out).mono ?_); rintro e w' ⟨rfl, ⟨nd, rfl⟩⟩))
                      go_meet
                      case rel => exact ⟨_, (t121), (by first | rfl | (simp; done) | (simp [*]; done)), H', ⟨by have := HJ6.out; first | omega | exact Nat.le_refl _⟩, by repeat (first | exact Drawn0.refl _ | apply Drawn0.step)⟩
                    · replace c16 := Bool.eq_false_iff.mpr c16
                      subst c16
                      have H1 : (indentureref04_Size.j1 kj6 a0 a1 (bt a0 a1) false) = some r := by rw [if_neg (show ¬ (false = true) by decide)] at H; exact H
                      clear H
                      have H := H1
                      clear H1
                      have H' := Aside0.mk H
                      clear H
                      go_wp2_with (first | (go_at_call 53; (with_reducible refine (indentureref04_tail.calls a0 (wrap64 (a1 + 1)) false _ A15.out).mono ?_); rintro e w' ⟨rfl, ⟨nd, rfl⟩⟩))
                      go_meet
                      case rel => exact ⟨_, (false), (by first | rfl | (simp; done) | (simp [*]; done)), H', ⟨by have := HJ6.out; first | omega | exact Nat.le_refl _⟩, by repeat (first | exact Drawn0.refl _ | apply Drawn0.step)⟩
                  · rw [if_neg c14] at H
                    have c14b0 : decide ((bt a0 a1) ≤ 239) = false := decide_eq_false c14
                    clear c14
                    have H' := Aside0.mk H
                    clear H
                    go_wp2
                    go_meet
                    case rel => exact ⟨_, (false), (by first | rfl | (simp; done) | (simp [*]; done)), H', ⟨by have := HJ6.out; first | omega | exact Nat.le_refl _⟩, by repeat (first | exact Drawn0.refl _ | apply Drawn0.step)⟩
                · rw [if_neg c13] at H
                  have c13b0 : decide (224 ≤ (bt a0 a1)) = false := decide_eq_false c13
                  clear c13
                  (first | rw [c13b0] | (simp only [i64_w, i32_w]; rw [c13b0]) | skip)
                  have H' := Aside0.mk H
                  clear H
                  go_wp2
                  go_meet
                  case rel => exact ⟨_, (false), (by first | rfl | (simp; done) | (simp [*]; done)), H', ⟨by have := HJ6.out; first | omega | exact Nat.le_refl _⟩, by repeat (first | exact Drawn0.refl _ | apply Drawn0.step)⟩
              case rest =>
                clear HC12
                try clear c1
                try clear p2
                try clear c3
                try clear c3b0
                try clear c4
                try clear c4b0
                try clear p5
                try clear q5
                try clear hx5
                try clear c6
                try clear c6b0
                try clear p6
                try clear c8
                try clear c8b0
                try clear c9
                try clear c9b0
                try clear c11
                try clear c13
                try clear c13b0
                try clear c14
                try clear c14b0
                try clear c16
                try clear p2
                try clear p5
                try clear p6
                try clear q5
                obtain ⟨kq, x40_11, rfl, HA, HJ11, ⟨mc11, rfl⟩⟩ := hcut
                cases kq with
                | zero => exact absurd HA.out (by simp [indentureref04_Size.j1])
                | succ kj11 =>
                  have H := HA.out
                  clear HA
                  simp only [indentureref04_Size.j1] at H
                  by_cases c18 : x40_11 = true
                  · subst c18
                    have H1 : (if (bt a0 a1) = 224 then (if 0 ≤ (wrap64 (a1 + 1)) then (if (wrap64 (a1 + 1)) < (a0.size : Int) then (if (bt a0 (wrap64 (a1 + 1))) < 160 then (some 0) else (if (bt a0 a1) = 237 then (if (bt a0 (wrap64 (a1 + 1))) > 159 then (some 0) else (some 3)) else (some 3))) else (none)) else (none)) else (if (bt a0 a1) = 237 then (if 0 ≤ (wrap64 (a1 + 1)) then (if (wrap64 (a1 + 1)) < (a0.size : Int) then (if (bt a0 (wrap64 (a1 + 1))) > 159 then (some 0) else (some 3)) else (none)) else (none)) else (some 3))) = some r := by rw [if_pos rfl] at H; exact H
                    clear H
                    have H := H1
                    clear H1
                    by_cases c19 : (bt a0 a1) = 224
                    · rw [if_pos c19] at H
                      have c19b0 : ((bt a0 a1) == 224) = true := beq_iff_eq.mpr c19
                      have c19b1 : ((bt a0 a1) != 224) = false := bne_eq_false_iff_eq.mpr c19
                      clear c19
                      obtain ⟨ji20, hji20⟩ : ∃ j_ : Int, (wrap64 (a1 + 1)) = j_ := ⟨_, rfl⟩
                      replace H : (if 0 ≤ (ji20) then (if (ji20) < (a0.size : Int) then (if (bt a0 (ji20)) < 160 then (some 0) else (if (bt a0 a1) = 237 then (if (bt a0 (ji20)) > 159 then (some 0) else (some 3)) else (some 3))) else (none)) else (none)) = some r := by first | (rw [hji20] at H; exact H) | (simp only [hji20] at H ⊢; exact H)
                      have hji20w : (IntKind.i64.wrap (a1 + 1)) = ji20 := (i64_w _).trans hji20
                      by_cases c21 : 0 ≤ (ji20)
                      · rw [if_pos c21] at H
                        have c21b0 : decide (0 ≤ (ji20)) = true := decide_eq_true c21
                        clear c21
                        by_cases c22 : (ji20) < (a0.size : Int)
                        · rw [if_pos c22] at H
                          have c22b0 : decide ((ji20) < (a0.size : Int)) = true := decide_eq_true c22
                          clear c22
                          by_cases c24 : (bt a0 (ji20)) < 160
                          · rw [if_pos c24] at H
                            have c24b0 : decide ((bt a0 (ji20)) < 160) = true := decide_eq_true c24
                            clear c24
                            obtain rfl := Option.some.inj H
                            have p23 : 0 ≤ ((ji20) : Int) := of_decide_eq_true (by first | (with_reducible assumption) | assumption)
                            have q23 : (ji20) < (a0.size : Int) := of_decide_eq_true (by first | (with_reducible assumption) | assumption)
                            have hx23 := bt_at a0 (ji20)
                            replace p23 := eq_true p23
                            replace q23 := eq_true q23
                            go_wp2
                            go_ret
                            exact ⟨by first | rfl | (simp; done) | (simp only [← hji20] <;> (first | rfl | simp)) | (simp [*]; done), by repeat (first | exact Drawn0.refl _ | apply Drawn0.step)⟩
                          · rw [if_neg c24] at H
                            have c24b0 : decide ((bt a0 (ji20)) < 160) = false := decide_eq_false c24
                            clear c24
                            by_cases c25 : (bt a0 a1) = 237
                            · rw [if_pos c25] at H
                              have c25b0 : ((bt a0 a1) == 237) = true := beq_iff_eq.mpr c25
                              have c25b1 : ((bt a0 a1) != 237) = false := bne_eq_false_iff_eq.mpr c25
                              clear c25
                              by_cases c27 : (bt a0 (ji20)) > 159
                              · rw [if_pos c27] at H
                                have c27b0 : decide (159 < (bt a0 (ji20))) = true := decide_eq_true c27
                                clear c27
                                obtain rfl := Option.some.inj H
                                have p23 : 0 ≤ ((ji20) : Int) := of_decide_eq_true (by first | (with_reducible assumption) | assumption)
                                have q23 : (ji20) < (a0.size : Int) := of_decide_eq_true (by first | (with_reducible assumption) | assumption)
                                have hx23 := bt_at a0 (ji20)
                                replace p23 := eq_true p23
                                replace q23 := eq_true q23
                                have p26 : 0 ≤ ((ji20) : Int) := of_decide_eq_true (by first | (with_reducible assumption) | assumption)
                                have q26 : (ji20) < (a0.size : Int) := of_decide_eq_true (by first | (with_reducible assumption) | assumption)
                                have hx26 := bt_at a0 (ji20)
                                replace p26 := eq_true p26
                                replace q26 := eq_true q26
                                go_wp2
                                go_ret
                                exact ⟨by first | rfl | (simp; done) | (simp only [← hji20] <;> (first | rfl | simp)) | (simp [*]; done), by repeat (first | exact Drawn0.refl _ | apply Drawn0.step)⟩
                              · rw [if_neg c27] at H
                                have c27b0 : decide (159 < (bt a0 (ji20))) = false := decide_eq_false c27
                                clear c27
                                obtain rfl := Option.some.inj H
                                have p23 : 0 ≤ ((ji20) : Int) := of_decide_eq_true (by first | (with_reducible assumption) | assumption)
                                have q23 : (ji20) < (a0.size : Int) := of_decide_eq_true (by first | (with_reducible assumption) | assumption)
                                have hx23 := bt_at a0 (ji20)
                                replace p23 := eq_true p23
                                replace q23 := eq_true q23
                                have p26 : 0 ≤ ((ji20) : Int) := of_decide_eq_true (by first | (with_reducible assumption) | assumption)
                                have q26 : (ji20) < (a0.size : Int) := of_decide_eq_true (by first | (with_reducible assumption) | assumption)
                                have hx26 := bt_at a0 (ji20)
                                replace p26 := eq_true p26
                                replace q26 := eq_true q26
                                go_wp2
                                go_ret
                                exact ⟨by first | rfl | (simp; done) | (simp only [← hji20] <;> (first | rfl | simp)) | (simp [*]; done), by repeat (first | exact Drawn0.refl _ | apply Drawn0.step)⟩
                            · rw [if_neg c25] at H
                              have c25b0 : ((bt a0 a1) == 237) = false := beq_eq_false_iff_ne.mpr c25
                              have c25b1 : ((bt a0 a1) != 237) = true := bne_iff_ne.mpr c25
                              obtain rfl := Option.some.inj H
                              have p23 : 0 ≤ ((ji20) : Int) := of_decide_eq_true (by first | (with_reducible assumption) | assumption)
                              have q23 : (ji20) < (a0.size : Int) := of_decide_eq_true (by first | (with_reducible assumption) | assumption)
                              have hx23 := bt_at a0 (ji20)
                              replace p23 := eq_true p23
                              replace q23 := eq_true q23
                              go_wp2
                              go_ret
                              exact ⟨by first | rfl | (simp; done) | (simp only [← hji20] <;> (first | rfl | simp)) | (simp [*]; done), by repeat (first | exact Drawn0.refl _ | apply Drawn0.step)⟩
                        · rw [if_neg c22] at H
                          exact absurd H (by simp)
                      · rw [if_neg c21] at H
                        exact absurd H (by simp)
                    · rw [if_neg c19] at H
                      have c19b0 : ((bt a0 a1) == 224) = false := beq_eq_false_iff_ne.mpr c19
                      have c19b1 : ((bt a0 a1) != 224) = true := bne_iff_ne.mpr c19
                      by_cases c28 : (bt a0 a1) = 237
                      · rw [if_pos c28] at H
                        have c28b0 : ((bt a0 a1) == 237) = true := beq_iff_eq.mpr c28
                        have c28b1 : ((bt a0 a1) != 237) = false := bne_eq_false_iff_eq.mpr c28
                        clear c28
                        obtain ⟨ji29, hji29⟩ : ∃ j_ : Int, (wrap64 (a1 + 1)) = j_ := ⟨_, rfl⟩
                        replace H : (if 0 ≤ (ji29) then (if (ji29) < (a0.size : Int) then (if (bt a0 (ji29)) > 159 then (some 0) else (some 3)) else (none)) else (none)) = some r := by first | (rw [hji29] at H; exact H) | (simp only [hji29] at H ⊢; exact H)
                        have hji29w : (IntKind.i64.wrap (a1 + 1)) = ji29 := (i64_w _).trans hji29
                        by_cases c30 : 0 ≤ (ji29)
                        · rw [if_pos c30] at H
                          have c30b0 : decide (0 ≤ (ji29)) = true := decide_eq_true c30
                          clear c30
                          by_cases c31 : (ji29) < (a0.size : Int)
                          · rw [if_pos c31] at H
                            have c31b0 : decide ((ji29) < (a0.size : Int)) = true := decide_eq_true c31
                            clear c31
                            by_cases c33 : (bt a0 (ji29)) > 159
                            · rw [if_pos c33] at H
                              have c33b0 : decide (159 < (bt a0 (ji29))) = true := decide_eq_true c33
                              clear c33
                              obtain rfl := Option.some.inj H
                              have p32 : 0 ≤ ((ji29) : Int) := of_decide_eq_true (by first | (with_reducible assumption) | assumption)
                              have q32 : (ji29) < (a0.size : Int) := of_decide_eq_true (by first | (with_reducible assumption) | assumption)
                              have hx32 := bt_at a0 (ji29)
                              replace p32 := eq_true p32
                              replace q32 := eq_true q32
                              go_wp2
                              go_ret
                              exact ⟨by first | rfl | (simp; done) | (simp only [← hji29] <;> (first | rfl | simp)) | (simp [*]; done), by repeat (first | exact Drawn0.refl _ | apply Drawn0.step)⟩
                            · rw [if_neg c33] at H
                              have c33b0 : decide (159 < (bt a0 (ji29))) = false := decide_eq_false c33
                              clear c33
                              obtain rfl := Option.some.inj H
                              have p32 : 0 ≤ ((ji29) : Int) := of_decide_eq_true (by first | (with_reducible assumption) | assumption)
                              have q32 : (ji29) < (a0.size : Int) := of_decide_eq_true (by first | (with_reducible assumption) | assumption)
                              have hx32 := bt_at a0 (ji29)
                              replace p32 := eq_true p32
                              replace q32 := eq_true q32
                              go_wp2
                              go_ret
                              exact ⟨by first | rfl | (simp; done) | (simp only [← hji29] <;> (first | rfl | simp)) | (simp [*]; done), by repeat (first | exact Drawn0.refl _ | apply Drawn0.step)⟩
                          · rw [if_neg c31] at H
                            exact absurd H (by simp)
                        · rw [if_neg c30] at H
                          exact absurd H (by simp)
                      · rw [if_neg c28] at H
                        have c28b0 : ((bt a0 a1) == 237) = false := beq_eq_false_iff_ne.mpr c28
                        have c28b1 : ((bt a0 a1) != 237) = true := bne_iff_ne.mpr c28
                        obtain rfl := Option.some.inj H
                        go_wp2
                        go_ret
                        exact ⟨by first | rfl | (simp; done) | (simp [*]; done), by repeat (first | exact Drawn0.refl _ | apply Drawn0.step)⟩
                  · replace c18 := Bool.eq_false_iff.mpr c18
                    subst c18
                    have H1 : (if (bt a0 a1) ≥ 240 then (if (bt a0 a1) ≤ 244 then ((indentureref04_tail.f a0 (wrap64 (a1 + 1))).bind fun t122 => (if t122 = true then ((indentureref04_tail.f a0 (wrap64 (a1 + 2))).bind fun t123 => (if t123 = true then ((indentureref04_tail.f a0 (wrap64 (a1 + 3))).bind fun t124 => (indentureref04_Size.j2 kj11 a0 a1 (bt a0 a1) t124)) else (indentureref04_Size.j2 kj11 a0 a1 (bt a0 a1) false))) else (indentureref04_Size.j2 kj11 a0 a1 (bt a0 a1) false))) else (indentureref04_Size.j2 kj11 a0 a1 (bt a0 a1) false)) else (indentureref04_Size.j2 kj11 a0 a1 (bt a0 a1) false)) = some r := by rw [if_neg (show ¬ (false = true) by decide)] at H; exact H
                    clear H
                    have H := H1
                    clear H1
                    have HC34 := Aside0.mk H
                    clear H
                    go_upto_region 10 with (fail)
                    go_cut [84] (fun v84 wc => ∃ (kq : Nat) (x84_33 : Bool), v84 = .bool x84_33 ∧ Aside0 (indentureref04_Size.j2 kq a0 a1 (bt a0 a1) x84_33 = some r) ∧ Aside0 (kq ≤ kj11) ∧ Drawn0 w wc)
                    case first =>
                      have H := HC34.out
                      clear HC34
                      by_cases c35 : (bt a0 a1) ≥ 240
                      · rw [if_pos c35] at H
                        have c35b0 : decide (240 ≤ (bt a0 a1)) = true := decide_eq_true c35
                        clear c35
                        (first | rw [c35b0] | (simp only [i64_w, i32_w]; rw [c35b0]) | skip)
                        by_cases c36 : (bt a0 a1) ≤ 244
                        · rw [if_pos c36] at H
                          have c36b0 : decide ((bt a0 a1) ≤ 244) = true := decide_eq_true c36
                          clear c36
                          replace H := Option.bind_eq_some_iff.mp H
                          obtain ⟨t122, A370, H⟩ := H
                          replace H : (if t122 = true then ((indentureref04_tail.f a0 (wrap64 (a1 + 2))).bind fun t123 => (if t123 = true then ((indentureref04_tail.f a0 (wrap64 (a1 + 3))).bind fun t124 => (indentureref04_Size.j2 kj11 a0 a1 (bt a0 a1) t124)) else (indentureref04_Size.j2 kj11 a0 a1 (bt a0 a1) false))) else (indentureref04_Size.j2 kj11 a0 a1 (bt a0 a1) false)) = some r := H
                          have A37 := Aside0.mk A370
                          clear A370
                          by_cases c38 : t122 = true
                          · subst c38
                            have H1 : ((indentureref04_tail.f a0 (wrap64 (a1 + 2))).bind fun t123 => (if t123 = true then ((indentureref04_tail.f a0 (wrap64 (a1 + 3))).bind fun t124 => (indentureref04_Size.j2 kj11 a0 a1 (bt a0 a1) t124)) else (indentureref04_Size.j2 kj11 a0 a1 (bt a0 a1) false))) = some r := by rw [if_pos rfl] at H; exact H
                            clear H
                            have H := H1
                            clear H1
                            replace H := Option.bind_eq_some_iff.mp H
                            obtain ⟨t123, A390, H⟩ := H
                            replace H : (if t123 = true then ((indentureref04_tail.f a0 (wrap64 (a1 + 3))).bind fun t124 => (indentureref04_Size.j2 kj11 a0 a1 (bt a0 a1) t124)) else (indentureref04_Size.j2 kj11 a0 a1 (bt a0 a1) false)) = some r := H
                            have A39 := Aside0.mk A390
                            clear A390
                            by_cases c40 : t123 = true
                            · subst c40
                              have H1 : ((indentureref04_tail.f a0 (wrap64 (a1 + 3))).bind fun t124 => (indentureref04_Size.j2 kj11 a0 a1 (bt a0 a1) t124)) = some r := by rw [if_pos rfl] at H; exact H
                              clear H
                              have H := H1
                              clear H1
                              replace H := Option.bind_eq_some_iff.mp H
                              obtain ⟨t124, A410, H⟩ := H
                              replace H : (indentureref04_Size.j2 kj11 a0 a1 (bt a0 a1) t124) = some r := H
                              have A41 := Aside0.mk A410
                              clear A410
                              have H' := Aside0.mk H
                              clear H
                              go_wp2_with (first | (go_at_call 53; (with_reducible refine (indentureref04_tail.calls a0 (wrap64 (a1 + 1)) true _ A37.out).mono ?_); rintro e w' ⟨rfl, ⟨nd, rfl⟩⟩) | (go_at_call 53; (with_reducible refine (indentureref04_tail.calls a0 (wrap64 (a1 + 2)) true _ A39.out).mono ?_); rintro e w' ⟨rfl, ⟨nd, rfl⟩⟩) | (go_at_call 53; (with_reducible refine (indentureref04_tail.calls a0 (wrap64 (a1 + 3)) t124 _ A41.out).mono ?_); rintro e w' ⟨rfl, ⟨nd, rfl⟩⟩))
                              go_meet
                              case rel => exact ⟨_, (t124), (by first | rfl | (simp; done) | (simp [*]; done)), H', ⟨by have := HJ6.out; have := HJ11.out; first | omega | exact Nat.le_refl _⟩, by repeat (first | exact Drawn0.refl _ | apply Drawn0.step)⟩
                            · replace c40 := Bool.eq_false_iff.mpr c40
                              subst c40
                              have H1 : (indentureref04_Size.j2 kj11 a0 a1 (bt a0 a1) false) = some r := by rw [if_neg (show ¬ (false = true) by decide)] at H; exact H
                              clear H
                              have H := H1
                              clear H1
                              have H' := Aside0.mk H
                              clear H
                              go_wp2_with (first | (go_at_call 53; (with_reducible refine (indentureref04_tail.calls a0 (wrap64 (a1 + 1)) true _ A37.out).mono ?_); rintro e w' ⟨rfl, ⟨nd, rfl⟩⟩) | (go_at_call 53; (with_reducible refine (indentureref04_tail.calls a0 (wrap64 (a1 + 2)) false _ A39.out).mono ?_); rintro e w' ⟨rfl, ⟨nd, rfl⟩⟩))
                              go_meet
                              case rel => exact ⟨_, (false), (by first | rfl | (simp; done) | (simp [*]; done)), H', ⟨by have := HJ6.out; have := HJ11.out; first | omega | exact Nat.le_refl _⟩, by repeat (first | exact Drawn0.refl _ | apply Drawn0.step)⟩
                          · replace c38 := Bool.eq_false_iff.mpr c38
                            subst c38
                            have H1 : (indentureref04_Size.j2 kj11 a0 a1 (bt a0 a1) false) = some r := by rw [if_neg (show ¬ (false = true) by decide)] at H; exact H
                            clear H
                            have H := H1
                            clear H1
                            have H' := Aside0.mk H
                            clear H
                            go_wp2_with (first | (go_at_call 53; (with_reducible refine (indentureref04_tail.calls a0 (wrap64 (a1 + 1)) false _ A37.out).mono ?_); rintro e w' ⟨rfl, ⟨nd, rfl⟩⟩))
                            go_meet
                            case rel => exact ⟨_, (false), (by first | rfl | (simp; done) | (simp [*]; done)), H', ⟨by have := HJ6.out; have := HJ11.out; first | omega | exact Nat.le_refl _⟩, by repeat (first | exact Drawn0.refl _ | apply Drawn0.step)⟩
                        · rw [if_neg c36] at H
                          have c36b0 : decide ((bt a0 a1) ≤ 244) = false := decide_eq_false c36
                          clear c36
                          have H' := Aside0.mk H
                          clear H
                          go_wp2
                          go_meet
                          case rel => exact ⟨_, (false), (by first | rfl | (simp; done) | (simp [*]; done)), H', ⟨by have := HJ6.out; have := HJ11.out; first | omega | exact Nat.le_refl _⟩, by repeat (first | exact Drawn0.refl _ | apply Drawn0.step)⟩
                      · rw [if_neg c35] at H
                        have c35b0 : decide (240 ≤ (bt a0 a1)) = false := decide_eq_false c35
                        clear c35
                        (first | rw [c35b0] | (simp only [i64_w, i32_w]; rw [c35b0]) | skip)
                        have H' := Aside0.mk H
                        clear H
                        go_wp2
                        go_meet
                        case rel => exact ⟨_, (false), (by first | rfl | (simp; done) | (simp [*]; done)), H', ⟨by have := HJ6.out; have := HJ11.out; first | omega | exact Nat.le_refl _⟩, by repeat (first | exact Drawn0.refl _ | apply Drawn0.step)⟩
                    case rest =>
                      clear HC34
                      try clear c1
                      try clear c2
                      try clear p2
                      try clear q2
                      try clear hx2
                      try clear c3
                      try clear c3b0
                      try clear p3
                      try clear q3
                      try clear hx3
                      try clear c4
                      try clear c4b0
                      try clear p5
                      try clear q5
                      try clear hx5
                      try clear c6
                      try clear c6b0
                      try clear p6
                      try clear c8
                      try clear c8b0
                      try clear c9
                      try clear c9b0
                      try clear c11
                      try clear c13
                      try clear c13b0
                      try clear c14
                      try clear c14b0
                      try clear c16
                      try clear c18
                      try clear c19
                      try clear c19b0
                      try clear c19b1
                      try clear c21
                      try clear c21b0
                      try clear c22
                      try clear c22b0
                      try clear p23
                      try clear q23
                      try clear hx23
                      try clear c24
                      try clear c24b0
                      try clear c25
                      try clear c25b0
                      try clear c25b1
                      try clear p26
                      try clear q26
                      try clear hx26
                      try clear c27
                      try clear c27b0
                      try clear c28
                      try clear c28b0
                      try clear c28b1
                      try clear c30
                      try clear c30b0
                      try clear c31
                      try clear c31b0
                      try clear p32
                      try clear q32
                      try clear hx32
                      try clear c33
                      try clear c33b0
                      try clear c35
                      try clear c35b0
                      try clear c36
                      try clear c36b0
                      try clear c38
                      try clear c40
                      try clear p2
                      try clear p23
                      try clear p26
                      try clear p32
                      try clear p5
                      try clear p6
                      try clear q23
                      try clear q26
                      try clear q32
                      try clear q5
                      obtain ⟨kq, x84_33, rfl, HA, HJ33, ⟨mc33, rfl⟩⟩ := hcut
                      cases kq with
                      | zero => exact absurd HA.out (by simp [indentureref04_Size.j2])
                      | succ kj33 =>
                        have H := HA.out
                        clear HA
                        simp only [indentureref04_Size.j2] at H
                        by_cases c42 : x84_33 = true
                        · subst c42
                          have H1 : (if (bt a0 a1) = 240 then (if 0 ≤ (wrap64 (a1 + 1)) then (if (wrap64 (a1 + 1)) < (a0.size : Int) then (if (bt a0 (wrap64 (a1 + 1))) < 144 then (some 0) else (if (bt a0 a1) = 244 then (if (bt a0 (wrap64 (a1 + 1))) > 143 then (some 0) else (some 4)) else (some 4))) else (none)) else (none)) else (if (bt a0 a1) = 244 then (if 0 ≤ (wrap64 (a1 + 1)) then (if (wrap64 (a1 + 1)) < (a0.size : Int) then (if (bt a0 (wrap64 (a1 + 1))) > 143 then (some 0) else (some 4)) else (none)) else (none)) else (some 4))) = some r := by rw [if_pos rfl] at H; exact H
                          clear H
                          have H := H1
                          clear H1
                          by_cases c43 : (bt a0 a1) = 240
                          · rw [if_pos c43] at H
                            have c43b0 : ((bt a0 a1) == 240) = true := beq_iff_eq.mpr c43
                            have c43b1 : ((bt a0 a1) != 240) = false := bne_eq_false_iff_eq.mpr c43
                            clear c43
                            obtain ⟨ji44, hji44⟩ : ∃ j_ : Int, (wrap64 (a1 + 1)) = j_ := ⟨_, rfl⟩
                            replace H : (if 0 ≤ (ji44) then (if (ji44) < (a0.size : Int) then (if (bt a0 (ji44)) < 144 then (some 0) else (if (bt a0 a1) = 244 then (if (bt a0 (ji44)) > 143 then (some 0) else (some 4)) else (some 4))) else (none)) else (none)) = some r := by first | (rw [hji44] at H; exact H) | (simp only [hji44] at H ⊢; exact H)
                            have hji44w : (IntKind.i64.wrap (a1 + 1)) = ji44 := (i64_w _).trans hji44
                            by_cases c45 : 0 ≤ (ji44)
                            · rw [if_pos c45] at H
                              have c45b0 : decide (0 ≤ (ji44)) = true := decide_eq_true c45
                              clear c45
                              by_cases c46 : (ji44) < (a0.size : Int)
                              · rw [if_pos c46] at H
                                have c46b0 : decide ((ji44) < (a0.size : Int)) = true := decide_eq_true c46
                                clear c46
                                by_cases c48 : (bt a0 (ji44)) < 144
                                · rw [if_pos c48] at H
                                  have c48b0 : decide ((bt a0 (ji44)) < 144) = true := decide_eq_true c48
                                  clear c48
                                  obtain rfl := Option.some.inj H
                                  have p47 : 0 ≤ ((ji44) : Int) := of_decide_eq_true (by first | (with_reducible assumption) | assumption)
                                  have q47 : (ji44) < (a0.size : Int) := of_decide_eq_true (by first | (with_reducible assumption) | assumption)
                                  have hx47 := bt_at a0 (ji44)
                                  replace p47 := eq_true p47
                                  replace q47 := eq_true q47
                                  go_wp2
                                  go_ret
                                  exact ⟨by first | rfl | (simp; done) | (simp only [← hji44] <;> (first | rfl | simp)) | (simp [*]; done), by repeat (first | exact Drawn0.refl _ | apply Drawn0.step)⟩
                                · rw [if_neg c48] at H
                                  have c48b0 : decide ((bt a0 (ji44)) < 144) = false := decide_eq_false c48
                                  clear c48
                                  by_cases c49 : (bt a0 a1) = 244
                                  · rw [if_pos c49] at H
                                    have c49b0 : ((bt a0 a1) == 244) = true := beq_iff_eq.mpr c49
                                    have c49b1 : ((bt a0 a1) != 244) = false := bne_eq_false_iff_eq.mpr c49
                                    clear c49
                                    by_cases c51 : (bt a0 (ji44)) > 143
                                    · rw [if_pos c51] at H
                                      have c51b0 : decide (143 < (bt a0 (ji44))) = true := decide_eq_true c51
                                      clear c51
                                      obtain rfl := Option.some.inj H
                                      have p47 : 0 ≤ ((ji44) : Int) := of_decide_eq_true (by first | (with_reducible assumption) | assumption)
                                      have q47 : (ji44) < (a0.size : Int) := of_decide_eq_true (by first | (with_reducible assumption) | assumption)
                                      have hx47 := bt_at a0 (ji44)
                                      replace p47 := eq_true p47
                                      replace q47 := eq_true q47
                                      have p50 : 0 ≤ ((ji44) : Int) := of_decide_eq_true (by first | (with_reducible assumption) | assumption)
                                      have q50 : (ji44) < (a0.size : Int) := of_decide_eq_true (by first | (with_reducible assumption) | assumption)
                                      have hx50 := bt_at a0 (ji44)
                                      replace p50 := eq_true p50
                                      replace q50 := eq_true q50
                                      go_wp2
                                      go_ret
                                      exact ⟨by first | rfl | (simp; done) | (simp only [← hji44] <;> (first | rfl | simp)) | (simp [*]; done), by repeat (first | exact Drawn0.refl _ | apply Drawn0.step)⟩
                                    · rw [if_neg c51] at H
                                      have c51b0 : decide (143 < (bt a0 (ji44))) = false := decide_eq_false c51
                                      clear c51
                                      obtain rfl := Option.some.inj H
                                      have p47 : 0 ≤ ((ji44) : Int) := of_decide_eq_true (by first | (with_reducible assumption) | assumption)
                                      have q47 : (ji44) < (a0.size : Int) := of_decide_eq_true (by first | (with_reducible assumption) | assumption)
                                      have hx47 := bt_at a0 (ji44)
                                      replace p47 := eq_true p47
                                      replace q47 := eq_true q47
                                      have p50 : 0 ≤ ((ji44) : Int) := of_decide_eq_true (by first | (with_reducible assumption) | assumption)
                                      have q50 : (ji44) < (a0.size : Int) := of_decide_eq_true (by first | (with_reducible assumption) | assumption)
                                      have hx50 := bt_at a0 (ji44)
                                      replace p50 := eq_true p50
                                      replace q50 := eq_true q50
                                      go_wp2
                                      go_ret
                                      exact ⟨by first | rfl | (simp; done) | (simp only [← hji44] <;> (first | rfl | simp)) | (simp [*]; done), by repeat (first | exact Drawn0.refl _ | apply Drawn0.step)⟩
                                  · rw [if_neg c49] at H
                                    have c49b0 : ((bt a0 a1) == 244) = false := beq_eq_false_iff_ne.mpr c49
                                    have c49b1 : ((bt a0 a1) != 244) = true := bne_iff_ne.mpr c49
                                    obtain rfl := Option.some.inj H
                                    have p47 : 0 ≤ ((ji44) : Int) := of_decide_eq_true (by first | (with_reducible assumption) | assumption)
                                    have q47 : (ji44) < (a0.size : Int) := of_decide_eq_true (by first | (with_reducible assumption) | assumption)
                                    have hx47 := bt_at a0 (ji44)
                                    replace p47 := eq_true p47
                                    replace q47 := eq_true q47
                                    go_wp2
                                    go_ret
                                    exact ⟨by first | rfl | (simp; done) | (simp only [← hji44] <;> (first | rfl | simp)) | (simp [*]; done), by repeat (first | exact Drawn0.refl _ | apply Drawn0.step)⟩
                              · rw [if_neg c46] at H
                                exact absurd H (by simp)
                            · rw [if_neg c45] at H
                              exact absurd H (by simp)
                          · rw [if_neg c43] at H
                            have c43b0 : ((bt a0 a1) == 240) = false := beq_eq_false_iff_ne.mpr c43
                            have c43b1 : ((bt a0 a1) != 240) = true := bne_iff_ne.mpr c43
                            by_cases c52 : (bt a0 a1) = 244
                            · rw [if_pos c52] at H
                              have c52b0 : ((bt a0 a1) == 244) = true := beq_iff_eq.mpr c52
                              have c52b1 : ((bt a0 a1) != 244) = false := bne_eq_false_iff_eq.mpr c52
                              clear c52
                              obtain ⟨ji53, hji53⟩ : ∃ j_ : Int, (wrap64 (a1 + 1)) = j_ := ⟨_, rfl⟩
                              replace H : (if 0 ≤ (ji53) then (if (ji53) < (a0.size : Int) then (if (bt a0 (ji53)) > 143 then (some 0) else (some 4)) else (none)) else (none)) = some r := by first | (rw [hji53] at H; exact H) | (simp only [hji53] at H ⊢; exact H)
                              have hji53w : (IntKind.i64.wrap (a1 + 1)) = ji53 := (i64_w _).trans hji53
                              by_cases c54 : 0 ≤ (ji53)
                              · rw [if_pos c54] at H
                                have c54b0 : decide (0 ≤ (ji53)) = true := decide_eq_true c54
                                clear c54
                                by_cases c55 : (ji53) < (a0.size : Int)
                                · rw [if_pos c55] at H
                                  have c55b0 : decide ((ji53) < (a0.size : Int)) = true := decide_eq_true c55
                                  clear c55
                                  by_cases c57 : (bt a0 (ji53)) > 143
                                  · rw [if_pos c57] at H
                                    have c57b0 : decide (143 < (bt a0 (ji53))) = true := decide_eq_true c57
                                    clear c57
                                    obtain rfl := Option.some.inj H
                                    have p56 : 0 ≤ ((ji53) : Int) := of_decide_eq_true (by first | (with_reducible assumption) | assumption)
                                    have q56 : (ji53) < (a0.size : Int) := of_decide_eq_true (by first | (with_reducible assumption) | assumption)
                                    have hx56 := bt_at a0 (ji53)
                                    replace p56 := eq_true p56
                                    replace q56 := eq_true q56
                                    go_wp2
                                    go_ret
                                    exact ⟨by first | rfl | (simp; done) | (simp only [← hji53] <;> (first | rfl | simp)) | (simp [*]; done), by repeat (first | exact Drawn0.refl _ | apply Drawn0.step)⟩
                                  · rw [if_neg c57] at H
                                    have c57b0 : decide (143 < (bt a0 (ji53))) = false := decide_eq_false c57
                                    clear c57
                                    obtain rfl := Option.some.inj H
                                    have p56 : 0 ≤ ((ji53) : Int) := of_decide_eq_true (by first | (with_reducible assumption) | assumption)
                                    have q56 : (ji53) < (a0.size : Int) := of_decide_eq_true (by first | (with_reducible assumption) | assumption)
                                    have hx56 := bt_at a0 (ji53)
                                    replace p56 := eq_true p56
                                    replace q56 := eq_true q56
                                    go_wp2
                                    go_ret
                                    exact ⟨by first | rfl | (simp; done) | (simp only [← hji53] <;> (first | rfl | simp)) | (simp [*]; done), by repeat (first | exact Drawn0.refl _ | apply Drawn0.step)⟩
                                · rw [if_neg c55] at H
                                  exact absurd H (by simp)
                              · rw [if_neg c54] at H
                                exact absurd H (by simp)
                            · rw [if_neg c52] at H
                              have c52b0 : ((bt a0 a1) == 244) = false := beq_eq_false_iff_ne.mpr c52
                              have c52b1 : ((bt a0 a1) != 244) = true := bne_iff_ne.mpr c52
                              obtain rfl := Option.some.inj H
                              go_wp2
                              go_ret
                              exact ⟨by first | rfl | (simp; done) | (simp [*]; done), by repeat (first | exact Drawn0.refl _ | apply Drawn0.step)⟩
                        · replace c42 := Bool.eq_false_iff.mpr c42
                          subst c42
                          have H1 : (some 0) = some r := by rw [if_neg (show ¬ (false = true) by decide)] at H; exact H
                          clear H
                          have H := H1
                          clear H1
                          obtain rfl := Option.some.inj H
                          go_wp2
                          go_ret
                          exact ⟨by first | rfl | (simp; done) | (simp [*]; done), by repeat (first | exact Drawn0.refl _ | apply Drawn0.step)⟩
    · rw [if_neg c4] at H
      exact absurd H (by simp)
  · rw [if_neg c3] at H
    exact absurd H (by simp)

end Go.Proofs.YtgfdfmgocijdgaaGreatDoor.PLitTexts
