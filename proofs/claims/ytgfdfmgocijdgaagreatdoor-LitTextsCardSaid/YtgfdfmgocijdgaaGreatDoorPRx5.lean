/- Plain functions of the checked program, each with the proof that the call comes to it: printed by the kit's program for this claim. -/
import Derived.Test.YtgfdfmgocijdgaaGreatDoorPRx0
import Derived.Test.YtgfdfmgocijdgaaGreatDoorPRx3
import Derived.Test.YtgfdfmgocijdgaaGreatDoorPRx4
import Derived.Test.YtgfdfmgocijdgaaGreatDoorLt
namespace Go.Proofs.YtgfdfmgocijdgaaGreatDoor.PLitTexts
open Go.RowKit Go.Proofs.YtgfdfmgocijdgaaGreatDoorW.PrintWords Go.Proofs.YtgfdfmgocijdgaaGreatDoorW.PrintLast Go.Proofs.YtgfdfmgocijdgaaGreatDoorW.PrintMore
attribute [local go_sem] max2_int min2_int max_two min_two max_three min_three max_four min_four   -- for this text's walks alone
set_option linter.unusedVariables false
set_option linter.unusedSimpArgs false

/-! ### indentureref06_One: function 19 -/
mutual
def indentureref06_One.j0 : Nat → ByteArray → Int → Bool → Option (Int × Bool × Int)
  | 0, _, _, _ => none
  | k + 1, x0, x1, x25 => if x25 = true then (some (0, false, 0)) else (if 0 < (x0.size : Int) then (if (bt x0 0) = 92 then (if (x0.size : Int) = 1 then (some (0, false, 0)) else (if 1 < (x0.size : Int) then ((some (([97, 98, 102, 110, 114, 116, 118, 92, x1] : List Int) : List Int)).bind fun y140 => (indentureref06_One.l0 k x0 x1 (bt x0 1) y140 (y140.length : Int) 0)) else (none))) else ((indentureref06_letter.f k x0).bind fun bt137 => (some (bt137.1, bt137.2.1, bt137.2.2)))) else (none))
def indentureref06_One.l0 : Nat → ByteArray → Int → Int → List Int → Int → Int → Option (Int × Bool × Int)
  | 0, _, _, _, _, _, _ => none
  | k + 1, x0, x1, x5, x39, x40, x41 => if x41 < x40 then (if 0 ≤ x41 then (if x41 < (x39.length : Int) then (if x5 = (rd x39 x41) then ((some (([7, 8, 12, 10, 13, 9, 11, 92, x1] : List Int) : List Int)).bind fun y144 => (if x41 < (y144.length : Int) then (some (wrap32 (rd y144 x41), true, 2)) else (none))) else (indentureref06_One.l0 k x0 x1 x5 x39 x40 (wrap64 (x41 + 1)))) else (none)) else (none)) else (if x5 = 117 then (indentureref06_One.j2 k x0 x5 true) else (indentureref06_One.j2 k x0 x5 (x5 == 85)))
def indentureref06_One.j2 : Nat → ByteArray → Int → Bool → Option (Int × Bool × Int)
  | 0, _, _, _ => none
  | k + 1, x0, x5, x62 => if x62 = true then (if x5 = 85 then (if 2 ≤ (x0.size : Int) then ((indentureref06_value.f k (x0.extract 2 x0.size) 8 16).bind fun t148 => (if t148 < 0 then (some (0, false, 0)) else (if t148 > 1114111 then (some (0, false, 0)) else (if t148 ≥ 55296 then (if t148 ≤ 57343 then (some (0, false, 0)) else (some (wrap32 (t148), false, 2 + 8))) else (some (wrap32 (t148), false, 2 + 8)))))) else (none)) else (if 2 ≤ (x0.size : Int) then ((indentureref06_value.f k (x0.extract 2 x0.size) 4 16).bind fun t149 => (if t149 < 0 then (some (0, false, 0)) else (if t149 > 1114111 then (some (0, false, 0)) else (if t149 ≥ 55296 then (if t149 ≤ 57343 then (some (0, false, 0)) else (some (wrap32 (t149), false, 2 + 4))) else (some (wrap32 (t149), false, 2 + 4)))))) else (none))) else (if x5 = 120 then (if 2 ≤ (x0.size : Int) then ((indentureref06_value.f k (x0.extract 2 x0.size) 2 16).bind fun t150 => (if t150 < 0 then (some (0, false, 0)) else (some (wrap32 (t150), true, 4)))) else (none)) else (if 1 ≤ (x0.size : Int) then ((indentureref06_value.f k (x0.extract 1 x0.size) 3 8).bind fun t151 => (if t151 < 0 then (some (0, false, 0)) else (if t151 > 255 then (some (0, false, 0)) else (some (wrap32 (t151), true, 4))))) else (none)))
end
def indentureref06_One.f (k : Nat) (a0 : ByteArray) (a1 : Int) : Option (Int × Bool × Int) := if (a0.size : Int) = 0 then (indentureref06_One.j0 k a0 a1 true) else (if 0 < (a0.size : Int) then (if (bt a0 0) = a1 then (indentureref06_One.j0 k a0 a1 true) else (indentureref06_One.j0 k a0 a1 ((bt a0 0) == 10))) else (none))
theorem indentureref06_One.mono_l : ∀ k, (∀ y0 y1 y2, LeO (indentureref06_One.j0 k y0 y1 y2) (indentureref06_One.j0 (k + 1) y0 y1 y2)) ∧ (∀ y0 y1 y2 y3 y4 y5, LeO (indentureref06_One.l0 k y0 y1 y2 y3 y4 y5) (indentureref06_One.l0 (k + 1) y0 y1 y2 y3 y4 y5)) ∧ (∀ y0 y1 y2, LeO (indentureref06_One.j2 k y0 y1 y2) (indentureref06_One.j2 (k + 1) y0 y1 y2))
  | 0 => ⟨fun _ _ _ r h => by simp [indentureref06_One.j0] at h, fun _ _ _ _ _ _ r h => by simp [indentureref06_One.l0] at h, fun _ _ _ r h => by simp [indentureref06_One.j2] at h⟩
  | k + 1 => by
    obtain ⟨ih0, ih1, ih2⟩ := indentureref06_One.mono_l k
    refine ⟨?_, ?_, ?_⟩
    · intro y0 y1 y2
      unfold indentureref06_One.j0
      repeat' first
      | (with_reducible exact ih0 _ _ _)
      | (with_reducible exact ih1 _ _ _ _ _ _)
      | (with_reducible exact ih2 _ _ _)
      | (with_reducible exact indentureref06_letter.mono _ _)
      | (with_reducible exact indentureref06_value.mono _ _ _ _)
      | (with_reducible exact LeO.refl _)
      | (with_reducible exact LeO.none _)
      | (with_reducible refine LeO.ite ?_ ?_)
      | (with_reducible refine LeO.bind ?_ (fun _ => ?_))
      | exact ih0 _ _ _
      | exact ih1 _ _ _ _ _ _
      | exact ih2 _ _ _
      | exact indentureref06_letter.mono _ _
      | exact indentureref06_value.mono _ _ _ _
      | exact LeO.none _
      | refine LeO.ite ?_ ?_
      | refine LeO.bind ?_ (fun _ => ?_)
    · intro y0 y1 y2 y3 y4 y5
      unfold indentureref06_One.l0
      repeat' first
      | (with_reducible exact ih0 _ _ _)
      | (with_reducible exact ih1 _ _ _ _ _ _)
      | (with_reducible exact ih2 _ _ _)
      | (with_reducible exact indentureref06_letter.mono _ _)
      | (with_reducible exact indentureref06_value.mono _ _ _ _)
      | (with_reducible exact LeO.refl _)
      | (with_reducible exact LeO.none _)
      | (with_reducible refine LeO.ite ?_ ?_)
      | (with_reducible refine LeO.bind ?_ (fun _ => ?_))
      | exact ih0 _ _ _
      | exact ih1 _ _ _ _ _ _
      | exact ih2 _ _ _
      | exact indentureref06_letter.mono _ _
      | exact indentureref06_value.mono _ _ _ _
      | exact LeO.none _
      | refine LeO.ite ?_ ?_
      | refine LeO.bind ?_ (fun _ => ?_)
    · intro y0 y1 y2
      unfold indentureref06_One.j2
      repeat' first
      | (with_reducible exact ih0 _ _ _)
      | (with_reducible exact ih1 _ _ _ _ _ _)
      | (with_reducible exact ih2 _ _ _)
      | (with_reducible exact indentureref06_letter.mono _ _)
      | (with_reducible exact indentureref06_value.mono _ _ _ _)
      | (with_reducible exact LeO.refl _)
      | (with_reducible exact LeO.none _)
      | (with_reducible refine LeO.ite ?_ ?_)
      | (with_reducible refine LeO.bind ?_ (fun _ => ?_))
      | exact ih0 _ _ _
      | exact ih1 _ _ _ _ _ _
      | exact ih2 _ _ _
      | exact indentureref06_letter.mono _ _
      | exact indentureref06_value.mono _ _ _ _
      | exact LeO.none _
      | refine LeO.ite ?_ ?_
      | refine LeO.bind ?_ (fun _ => ?_)
theorem indentureref06_One.mono : ∀ a0 a1 k, LeO (indentureref06_One.f k a0 a1) (indentureref06_One.f (k + 1) a0 a1) := by
  intro a0 a1 k
  obtain ⟨ih0, ih1, ih2⟩ := indentureref06_One.mono_l k
  unfold indentureref06_One.f
  repeat' first
      | (with_reducible exact ih0 _ _ _)
      | (with_reducible exact ih1 _ _ _ _ _ _)
      | (with_reducible exact ih2 _ _ _)
      | (with_reducible exact indentureref06_letter.mono _ _)
      | (with_reducible exact indentureref06_value.mono _ _ _ _)
      | (with_reducible exact LeO.refl _)
      | (with_reducible exact LeO.none _)
      | (with_reducible refine LeO.ite ?_ ?_)
      | (with_reducible refine LeO.bind ?_ (fun _ => ?_))
      | exact ih0 _ _ _
      | exact ih1 _ _ _ _ _ _
      | exact ih2 _ _ _
      | exact indentureref06_letter.mono _ _
      | exact indentureref06_value.mono _ _ _ _
      | exact LeO.none _
      | refine LeO.ite ?_ ?_
      | refine LeO.bind ?_ (fun _ => ?_)
set_option maxHeartbeats 8000000 in
set_option maxRecDepth 100000 in
theorem indentureref06_One.calls (k : Nat) (a0 : ByteArray) (a1 : Int) (r1 : Int) (r2 : Bool) (r3 : Int) (w : World) (h : indentureref06_One.f k a0 a1 = some (r1, r2, r3)) :
    Calls Tryz.prog 19 #[.string a0, .int .u8 a1] w fun e w' => e = .returned (.agg #[.int .i32 r1, .bool r2, .int .i64 r3]) ∧ Below w.heap.size w w' := by
  have hu55 := Tryz.underlying55
  have HB := Aside0.mk (Below.refl w.heap.size w)
  have H : (if (a0.size : Int) = 0 then (indentureref06_One.j0 k a0 a1 true) else (if 0 < (a0.size : Int) then (if (bt a0 0) = a1 then (indentureref06_One.j0 k a0 a1 true) else (indentureref06_One.j0 k a0 a1 ((bt a0 0) == 10))) else (none))) = some (r1, r2, r3) := h
  clear h
  have HC3 := Aside0.mk H
  clear H
  go_enter Tryz.func19, Tryz.ntmps19
  go_upto_region 1 with (first | ((with_reducible refine gate_dst (N := 4) rfl ?_); refine box_event ?hg (N := 4) ?hd (cs := #[.int .i32 0, .bool false, .int .i64 0]) (t := 55) ?hr ?_; (case hd => rfl); (case hg => rfl); (case hr => first | (go_simp; done) | (go_simp; rfl)); intro gb136 hg w4 hbox hb; have n0_ := Aside0.mk (below_step (by repeat (first | (with_reducible first | exact HB.out | apply below_alloc | apply pw_below_drewN | apply below_drew1) | exact HB.out)) hb); have n1_ := Aside0.mk (hbox); have n2_ := Aside0.mk ((by rw [hg]; exact (below_size (by repeat (first | (with_reducible first | exact HB.out | apply below_alloc | apply pw_below_drewN | apply below_drew1) | exact HB.out))) : w.heap.size ≤ gb136)); have n3_ := Aside0.mk ((by rw [hg]; exact (below_size (by repeat (first | (with_reducible first | exact HB.out | apply below_alloc | apply pw_below_drewN | apply below_drew1) | exact HB.out))) : w.heap.size ≤ gb136)); clear HB; have HB := n0_; have BK136 := n1_; have GW136 := n2_; have GE136 := n3_; clear n0_ n1_ n2_ n3_; clear hb hbox hg))
  (try simp only [Act.put, List.setIfInBounds_toArray, List.set_cons_zero, List.set_cons_succ])
  go_cut [25] (fun v25 wc => ∃ (kq : Nat) (x25_2 : Bool), v25 = .bool x25_2 ∧ Aside0 (indentureref06_One.j0 kq a0 a1 x25_2 = some (r1, r2, r3)) ∧ Aside0 (kq ≤ k) ∧ Aside0 (wc.heap[gb136]? = some (.cells #[.int .i32 0, .bool false, .int .i64 0] 55 (0, 0))) ∧ Aside0 (Below w.heap.size w wc))
  case first =>
    have H := HC3.out
    clear HC3
    by_cases c5 : (a0.size : Int) = 0
    · rw [if_pos c5] at H
      have c5b0 : ((a0.size : Int) == 0) = true := beq_iff_eq.mpr c5
      have c5b1 : ((a0.size : Int) != 0) = false := bne_eq_false_iff_eq.mpr c5
      clear c5
      (first | rw [c5b0] | (simp only [i64_w, i32_w]; rw [c5b0]) | skip)
      have H' := Aside0.mk H
      clear H
      go_wp2
      go_meet
      case rel => exact ⟨_, (true), (by first | rfl | (simp; done) | (simp [*]; done)), H', ⟨by first | omega | exact Nat.le_refl _⟩, ⟨by (with_reducible repeat (first | refine blk_drewN ?_ _ | refine blk_drew ?_ | refine blk_alloc ?_ _)); exact BK136.out⟩, ⟨by repeat (first | (with_reducible first | exact HB.out | apply below_alloc | apply pw_below_drewN | apply below_drew1 | refine below_set ?_ GE136.out) | exact HB.out)⟩⟩
    · rw [if_neg c5] at H
      have c5b0 : ((a0.size : Int) == 0) = false := beq_eq_false_iff_ne.mpr c5
      have c5b1 : ((a0.size : Int) != 0) = true := bne_iff_ne.mpr c5
      (first | rw [c5b0] | (simp only [i64_w, i32_w]; rw [c5b0]) | skip)
      by_cases c6 : 0 < (a0.size : Int)
      · rw [if_pos c6] at H
        have c6b0 : decide (0 < (a0.size : Int)) = true := decide_eq_true c6
        have c6b1 : decide (0 < a0.size) = true := decide_eq_true (by omega)
        clear c6
        by_cases c8 : (bt a0 0) = a1
        · rw [if_pos c8] at H
          have c8b0 : ((bt a0 0) == a1) = true := beq_iff_eq.mpr c8
          have c8b1 : ((bt a0 0) != a1) = false := bne_eq_false_iff_eq.mpr c8
          clear c8
          have H' := Aside0.mk H
          clear H
          have p7 : 0 ≤ (0 : Int) := (by omega)
          have q7 : 0 < a0.size := (by have : (0 : Int) < (a0.size : Int) := of_decide_eq_true (by first | (with_reducible assumption) | assumption); omega)
          have hx7 : ∀ h : 0 < a0.size, ((a0[0]'h).toNat : Int) = bt a0 0 := bt_at a0 0
          clear p7
          have qi7 : (0 < (a0.size : Int)) = True := eq_true (of_decide_eq_true (by first | (with_reducible assumption) | assumption))
          replace q7 := eq_true q7
          go_wp2
          go_meet
          case rel => exact ⟨_, (true), (by first | rfl | (simp; done) | (simp [*]; done)), H', ⟨by first | omega | exact Nat.le_refl _⟩, ⟨by (with_reducible repeat (first | refine blk_drewN ?_ _ | refine blk_drew ?_ | refine blk_alloc ?_ _)); exact BK136.out⟩, ⟨by repeat (first | (with_reducible first | exact HB.out | apply below_alloc | apply pw_below_drewN | apply below_drew1 | refine below_set ?_ GE136.out) | exact HB.out)⟩⟩
        · rw [if_neg c8] at H
          have c8b0 : ((bt a0 0) == a1) = false := beq_eq_false_iff_ne.mpr c8
          have c8b1 : ((bt a0 0) != a1) = true := bne_iff_ne.mpr c8
          have H' := Aside0.mk H
          clear H
          have p7 : 0 ≤ (0 : Int) := (by omega)
          have q7 : 0 < a0.size := (by have : (0 : Int) < (a0.size : Int) := of_decide_eq_true (by first | (with_reducible assumption) | assumption); omega)
          have hx7 : ∀ h : 0 < a0.size, ((a0[0]'h).toNat : Int) = bt a0 0 := bt_at a0 0
          clear p7
          have qi7 : (0 < (a0.size : Int)) = True := eq_true (of_decide_eq_true (by first | (with_reducible assumption) | assumption))
          replace q7 := eq_true q7
          have p9 : 0 ≤ (0 : Int) := (by omega)
          have q9 : 0 < a0.size := (by have : (0 : Int) < (a0.size : Int) := of_decide_eq_true (by first | (with_reducible assumption) | assumption); omega)
          have hx9 : ∀ h : 0 < a0.size, ((a0[0]'h).toNat : Int) = bt a0 0 := bt_at a0 0
          clear p9
          have qi9 : (0 < (a0.size : Int)) = True := eq_true (of_decide_eq_true (by first | (with_reducible assumption) | assumption))
          replace q9 := eq_true q9
          go_wp2
          go_meet
          case rel => exact ⟨_, (((bt a0 0) == 10)), (by first | rfl | (simp; done) | (simp [*]; done)), H', ⟨by first | omega | exact Nat.le_refl _⟩, ⟨by (with_reducible repeat (first | refine blk_drewN ?_ _ | refine blk_drew ?_ | refine blk_alloc ?_ _)); exact BK136.out⟩, ⟨by repeat (first | (with_reducible first | exact HB.out | apply below_alloc | apply pw_below_drewN | apply below_drew1 | refine below_set ?_ GE136.out) | exact HB.out)⟩⟩
      · rw [if_neg c6] at H
        exact absurd H (by simp)
  case rest =>
    clear HC3
    try clear c1
    try clear p2
    try clear c5
    try clear c5b0
    try clear c5b1
    try clear c6
    try clear c6b0
    try clear c6b1
    try clear p7
    try clear q7
    try clear hx7
    try clear qi7
    try clear c8
    try clear c8b0
    try clear c8b1
    try clear p9
    try clear q9
    try clear hx9
    try clear qi9
    try clear p7
    try clear p9
    try clear q7
    try clear q9
    obtain ⟨kq, x25_2, rfl, HA, HJ2, BK136, HB⟩ := hcut
    cases kq with
    | zero => exact absurd HA.out (by simp [indentureref06_One.j0])
    | succ kj2 =>
      have H := HA.out
      clear HA
      simp only [indentureref06_One.j0] at H
      by_cases c10 : x25_2 = true
      · subst c10
        have H1 : (some (0, false, 0)) = some (r1, r2, r3) := by rw [if_pos rfl] at H; exact H
        clear H
        have H := H1
        clear H1
        simp only [Option.some.injEq, Prod.mk.injEq] at H
        obtain ⟨rfl, rfl, rfl⟩ := H
        have hcz11_0 : wc.cell? ⟨gb136, 0, none⟩ = some (.int .i32 0) := (blk_cell BK136.out 0).trans rfl
        have hcz11_1 : wc.cell? ⟨gb136, 1, none⟩ = some (.bool false) := (blk_cell BK136.out 1).trans rfl
        have hcz11_2 : wc.cell? ⟨gb136, 2, none⟩ = some (.int .i64 0) := (blk_cell BK136.out 2).trans rfl
        have hfz11_0 := blk_frozen BK136.out 0
        have hfz11_1 := blk_frozen BK136.out 1
        have hfz11_2 := blk_frozen BK136.out 2
        go_wp2
        refine bodyPost_ret (results_cell_row rfl _ _ gb136 55 #[.int .i32 0, .bool false, .int .i64 0] (0, 0) _ rfl (by (with_reducible repeat (first | refine blk_drewN ?_ _ | refine blk_drew ?_ | refine blk_alloc ?_ _)); refine blk_put (cs := #[.int .i32 0, .bool false, .int .i64 0]) ?_ 2 _ rfl; (with_reducible repeat (first | refine blk_drewN ?_ _ | refine blk_drew ?_ | refine blk_alloc ?_ _)); refine blk_put (cs := #[.int .i32 0, .bool false, .int .i64 0]) ?_ 1 _ rfl; (with_reducible repeat (first | refine blk_drewN ?_ _ | refine blk_drew ?_ | refine blk_alloc ?_ _)); refine blk_put (cs := #[.int .i32 0, .bool false, .int .i64 0]) ?_ 0 _ rfl; (with_reducible repeat (first | refine blk_drewN ?_ _ | refine blk_drew ?_ | refine blk_alloc ?_ _)); exact BK136.out) Tryz.underlying55 rfl (by kernel_rfl)) rfl ?_
        exact ⟨by first | rfl | (simp [errW_none, errW_some] <;> rfl) | (simp [*, errW_none, errW_some] <;> rfl), by repeat (first | (with_reducible first | exact HB.out | apply below_alloc | apply pw_below_drewN | apply below_drew1 | refine below_set ?_ GE136.out) | exact HB.out)⟩
      · replace c10 := Bool.eq_false_iff.mpr c10
        subst c10
        have H1 : (if 0 < (a0.size : Int) then (if (bt a0 0) = 92 then (if (a0.size : Int) = 1 then (some (0, false, 0)) else (if 1 < (a0.size : Int) then ((some (([97, 98, 102, 110, 114, 116, 118, 92, a1] : List Int) : List Int)).bind fun y140 => (indentureref06_One.l0 kj2 a0 a1 (bt a0 1) y140 (y140.length : Int) 0)) else (none))) else ((indentureref06_letter.f kj2 a0).bind fun bt137 => (some (bt137.1, bt137.2.1, bt137.2.2)))) else (none)) = some (r1, r2, r3) := by rw [if_neg (show ¬ (false = true) by decide)] at H; exact H
        clear H
        have H := H1
        clear H1
        by_cases c12 : 0 < (a0.size : Int)
        · rw [if_pos c12] at H
          have c12b0 : decide (0 < (a0.size : Int)) = true := decide_eq_true c12
          have c12b1 : decide (0 < a0.size) = true := decide_eq_true (by omega)
          clear c12
          by_cases c14 : (bt a0 0) = 92
          · rw [if_pos c14] at H
            have c14b0 : ((bt a0 0) == 92) = true := beq_iff_eq.mpr c14
            have c14b1 : ((bt a0 0) != 92) = false := bne_eq_false_iff_eq.mpr c14
            clear c14
            by_cases c15 : (a0.size : Int) = 1
            · rw [if_pos c15] at H
              have c15b0 : ((a0.size : Int) == 1) = true := beq_iff_eq.mpr c15
              have c15b1 : ((a0.size : Int) != 1) = false := bne_eq_false_iff_eq.mpr c15
              clear c15
              simp only [Option.some.injEq, Prod.mk.injEq] at H
              obtain ⟨rfl, rfl, rfl⟩ := H
              have p13 : 0 ≤ (0 : Int) := (by omega)
              have q13 : 0 < a0.size := (by have : (0 : Int) < (a0.size : Int) := of_decide_eq_true (by first | (with_reducible assumption) | assumption); omega)
              have hx13 : ∀ h : 0 < a0.size, ((a0[0]'h).toNat : Int) = bt a0 0 := bt_at a0 0
              clear p13
              have qi13 : (0 < (a0.size : Int)) = True := eq_true (of_decide_eq_true (by first | (with_reducible assumption) | assumption))
              replace q13 := eq_true q13
              have hcz16_0 : wc.cell? ⟨gb136, 0, none⟩ = some (.int .i32 0) := (blk_cell BK136.out 0).trans rfl
              have hcz16_1 : wc.cell? ⟨gb136, 1, none⟩ = some (.bool false) := (blk_cell BK136.out 1).trans rfl
              have hcz16_2 : wc.cell? ⟨gb136, 2, none⟩ = some (.int .i64 0) := (blk_cell BK136.out 2).trans rfl
              have hfz16_0 := blk_frozen BK136.out 0
              have hfz16_1 := blk_frozen BK136.out 1
              have hfz16_2 := blk_frozen BK136.out 2
              go_wp2
              refine bodyPost_ret (results_cell_row rfl _ _ gb136 55 #[.int .i32 0, .bool false, .int .i64 0] (0, 0) _ rfl (by (with_reducible repeat (first | refine blk_drewN ?_ _ | refine blk_drew ?_ | refine blk_alloc ?_ _)); refine blk_put (cs := #[.int .i32 0, .bool false, .int .i64 0]) ?_ 2 _ rfl; (with_reducible repeat (first | refine blk_drewN ?_ _ | refine blk_drew ?_ | refine blk_alloc ?_ _)); refine blk_put (cs := #[.int .i32 0, .bool false, .int .i64 0]) ?_ 1 _ rfl; (with_reducible repeat (first | refine blk_drewN ?_ _ | refine blk_drew ?_ | refine blk_alloc ?_ _)); refine blk_put (cs := #[.int .i32 0, .bool false, .int .i64 0]) ?_ 0 _ rfl; (with_reducible repeat (first | refine blk_drewN ?_ _ | refine blk_drew ?_ | refine blk_alloc ?_ _)); exact BK136.out) Tryz.underlying55 rfl (by kernel_rfl)) rfl ?_
              exact ⟨by first | rfl | (simp [errW_none, errW_some] <;> rfl) | (simp [*, errW_none, errW_some] <;> rfl), by repeat (first | (with_reducible first | exact HB.out | apply below_alloc | apply pw_below_drewN | apply below_drew1 | refine below_set ?_ GE136.out) | exact HB.out)⟩
            · rw [if_neg c15] at H
              have c15b0 : ((a0.size : Int) == 1) = false := beq_eq_false_iff_ne.mpr c15
              have c15b1 : ((a0.size : Int) != 1) = true := bne_iff_ne.mpr c15
              by_cases c17 : 1 < (a0.size : Int)
              · rw [if_pos c17] at H
                have c17b0 : decide (1 < (a0.size : Int)) = true := decide_eq_true c17
                have c17b1 : decide (1 < a0.size) = true := decide_eq_true (by omega)
                clear c17
                obtain ⟨y140, hy140⟩ : ∃ y_ : List Int, y_ = (([97, 98, 102, 110, 114, 116, 118, 92, a1] : List Int)) := ⟨_, rfl⟩
                replace H : (indentureref06_One.l0 kj2 a0 a1 (bt a0 1) y140 (y140.length : Int) 0) = some (r1, r2, r3) := by first | (rw [hy140]; with_reducible exact H) | (have H2_ := (Option.bind_some _ _).symm.trans H; rw [hy140]; with_reducible exact H2_) | (have H2_ := (Option.bind_some _ _).symm.trans H; with_reducible exact H2_) | with_reducible exact H | (rw [hy140]; exact H) | exact H
                have Ny140 := Aside0.mk hy140
                clear hy140
                have H' := Aside0.mk H
                clear H
                have p13 : 0 ≤ (0 : Int) := (by omega)
                have q13 : 0 < a0.size := (by have : (0 : Int) < (a0.size : Int) := of_decide_eq_true (by first | (with_reducible assumption) | assumption); omega)
                have hx13 : ∀ h : 0 < a0.size, ((a0[0]'h).toNat : Int) = bt a0 0 := bt_at a0 0
                clear p13
                have qi13 : (0 < (a0.size : Int)) = True := eq_true (of_decide_eq_true (by first | (with_reducible assumption) | assumption))
                replace q13 := eq_true q13
                have p18 : 0 ≤ (1 : Int) := (by omega)
                have q18 : 1 < a0.size := (by have : (1 : Int) < (a0.size : Int) := of_decide_eq_true (by first | (with_reducible assumption) | assumption); omega)
                have hx18 : ∀ h : 1 < a0.size, ((a0[1]'h).toNat : Int) = bt a0 1 := bt_at a0 1
                clear p18
                have qi18 : (1 < (a0.size : Int)) = True := eq_true (of_decide_eq_true (by first | (with_reducible assumption) | assumption))
                replace q18 := eq_true q18
                go_wp2_with (first | ((with_reducible refine gate_dst (N := 39) rfl ?_); refine Kd.R_lit (Kd.int .u8) _ 5 ?hg (N := 39) ?hd (xs := ([97, 98, 102, 110, 114, 116, 118, 92, a1] : List Int)) (inner := [.int .u8 97, .int .u8 98, .int .u8 102, .int .u8 110, .int .u8 114, .int .u8 116, .int .u8 118, .int .u8 92, .int .u8 a1]) (ok := fun _ => True) (okp := fun _ => True) ?hr ?hp (fun _ hk => hk) trivial (Below.refl _ _) (Nat.le_refl _) (by simp) ?_; (case hd => rfl); (case hg => rfl); (case hr => first | (go_simp; done) | (go_simp; rfl)); (case hp => exact (Reps.one (show Kd.M (Kd.int .u8) _ _ _ 97 [.int .u8 97] from rfl) (Reps.one (show Kd.M (Kd.int .u8) _ _ _ 98 [.int .u8 98] from rfl) (Reps.one (show Kd.M (Kd.int .u8) _ _ _ 102 [.int .u8 102] from rfl) (Reps.one (show Kd.M (Kd.int .u8) _ _ _ 110 [.int .u8 110] from rfl) (Reps.one (show Kd.M (Kd.int .u8) _ _ _ 114 [.int .u8 114] from rfl) (Reps.one (show Kd.M (Kd.int .u8) _ _ _ 116 [.int .u8 116] from rfl) (Reps.one (show Kd.M (Kd.int .u8) _ _ _ 118 [.int .u8 118] from rfl) (Reps.one (show Kd.M (Kd.int .u8) _ _ _ 92 [.int .u8 92] from rfl) (Reps.one (show Kd.M (Kd.int .u8) _ _ _ a1 [.int .u8 a1] from rfl) (Reps.none _ _))))))))))); intro v141 w19 ho20 hb hg_ hnew_; clear hg_ hnew_; (first | rw [← Ny140.out] at ho20 | (simp only [Int.reduceToNat] at ho20; rw [← Ny140.out] at ho20)); have n0_ := Aside0.mk (Kd.R_lower ho20 (below_size (by repeat (first | (with_reducible first | exact HB.out | apply below_alloc | apply pw_below_drewN | apply below_drew1 | refine below_set ?_ GE136.out) | exact HB.out)))); have n1_ := Aside0.mk (blk_below (g := gb136) (o := .cells #[.int .i32 0, .bool false, .int .i64 0] 55 (0, 0)) (by (with_reducible repeat (first | refine blk_drewN ?_ _ | refine blk_drew ?_ | refine blk_alloc ?_ _)); exact BK136.out) hb); have n2_ := Aside0.mk (below_step (by repeat (first | (with_reducible first | exact HB.out | apply below_alloc | apply pw_below_drewN | apply below_drew1 | refine below_set ?_ GE136.out) | exact HB.out)) hb); clear BK136; clear HB; have HO142 := n0_; have BK136 := n1_; have HB := n2_; clear n0_ n1_ n2_; clear hb ho20; obtain ⟨Ao21, co21, eo21⟩ := Kd.R_slice HO142.out; subst eo21))
                go_loopg [41] kj2 (fun kq v41 w' => ∃ (x41_2 : Int) (x137000_2 : Int) (x137001_2 : Bool) (x137002_2 : Int), v41 = .int .i64 x41_2 ∧ Aside0 (indentureref06_One.l0 kq a0 a1 (bt a0 1) y140 (y140.length : Int) x41_2 = some (r1, r2, r3)) ∧ Aside0 (kq ≤ kj2) ∧ Aside0 (Kd.R (Kd.int .u8) 5 w' w.heap.size (fun _ => True) (.slice Ao21 y140.length co21) y140) ∧ Aside0 (w'.heap[gb136]? = some (.cells #[.int .i32 x137000_2, .bool x137001_2, .int .i64 x137002_2] 55 (0, 0))) ∧ Aside0 (Below w.heap.size w w'))
                case atStart => exact ⟨(0), (0), (false), (0), (by first | rfl | (simp; done) | (simp [*]; done)), H', ⟨Nat.le_refl _⟩, ⟨by (with_reducible repeat (first | apply Kd.R_alloc | apply Kd.R_drewN | apply Kd.R_drew)); exact HO142.out⟩, ⟨by (with_reducible repeat (first | refine blk_drewN ?_ _ | refine blk_drew ?_ | refine blk_alloc ?_ _)); exact BK136.out⟩, ⟨by repeat (first | (with_reducible first | exact HB.out | apply below_alloc | apply pw_below_drewN | apply below_drew1 | refine below_set ?_ GE136.out) | exact HB.out)⟩⟩
                case round =>
                  clear H'
                  try clear c1
                  try clear p1
                  try clear q1
                  try clear hx1
                  try clear qi1
                  try clear p2
                  try clear c5
                  try clear c5b0
                  try clear c5b1
                  try clear c6
                  try clear c6b0
                  try clear c6b1
                  try clear p7
                  try clear q7
                  try clear hx7
                  try clear qi7
                  try clear c8
                  try clear c8b0
                  try clear c8b1
                  try clear p9
                  try clear q9
                  try clear hx9
                  try clear qi9
                  try clear c10
                  try clear c12
                  try clear c12b0
                  try clear c12b1
                  try clear p13
                  try clear q13
                  try clear hx13
                  try clear qi13
                  try clear c14
                  try clear c14b0
                  try clear c14b1
                  try clear c15
                  try clear c15b0
                  try clear c15b1
                  try clear c17
                  try clear c17b0
                  try clear c17b1
                  try clear p18
                  try clear q18
                  try clear hx18
                  try clear qi18
                  try clear c19
                  try clear hcz11_0
                  try clear hcz11_1
                  try clear hcz11_2
                  try clear hcz16_0
                  try clear hcz16_1
                  try clear hcz16_2
                  try clear hfz11_0
                  try clear hfz11_1
                  try clear hfz11_2
                  try clear hfz16_0
                  try clear hfz16_1
                  try clear hfz16_2
                  try clear p13
                  try clear p18
                  try clear p2
                  try clear p7
                  try clear p9
                  try clear q13
                  try clear q18
                  try clear q7
                  try clear q9
                  obtain ⟨x41_2, x137000_2, x137001_2, x137002_2, rfl, HA, HK2, HO_39, BK136, HB⟩ := hrel
                  cases gk with
                  | zero => exact absurd HA.out (by simp [indentureref06_One.l0])
                  | succ k2 =>
                    have H := HA.out
                    clear HA
                    simp only [indentureref06_One.l0] at H
                    by_cases c22 : x41_2 < (y140.length : Int)
                    · rw [if_pos c22] at H
                      have c22b0 : decide (x41_2 < (y140.length : Int)) = true := decide_eq_true c22
                      clear c22
                      by_cases c23 : 0 ≤ x41_2
                      · rw [if_pos c23] at H
                        have c23b0 : decide (0 ≤ x41_2) = true := decide_eq_true c23
                        clear c23
                        by_cases c24 : x41_2 < (y140.length : Int)
                        · rw [if_pos c24] at H
                          have c24b0 : decide (x41_2 < (y140.length : Int)) = true := decide_eq_true c24
                          clear c24
                          by_cases c25 : (bt a0 1) = (rd y140 x41_2)
                          · rw [if_pos c25] at H
                            have c25b0 : ((bt a0 1) == (rd y140 x41_2)) = true := beq_iff_eq.mpr c25
                            have c25b1 : ((bt a0 1) != (rd y140 x41_2)) = false := bne_eq_false_iff_eq.mpr c25
                            clear c25
                            obtain ⟨y144, hy144⟩ : ∃ y_ : List Int, y_ = (([7, 8, 12, 10, 13, 9, 11, 92, a1] : List Int)) := ⟨_, rfl⟩
                            replace H : (if x41_2 < (y144.length : Int) then (some (wrap32 (rd y144 x41_2), true, 2)) else (none)) = some (r1, r2, r3) := by first | (rw [hy144]; with_reducible exact H) | (have H2_ := (Option.bind_some _ _).symm.trans H; rw [hy144]; with_reducible exact H2_) | (have H2_ := (Option.bind_some _ _).symm.trans H; with_reducible exact H2_) | with_reducible exact H | (rw [hy144]; exact H) | exact H
                            have Ny144 := Aside0.mk hy144
                            clear hy144
                            by_cases c26 : x41_2 < (y144.length : Int)
                            · rw [if_pos c26] at H
                              have c26b0 : decide (x41_2 < (y144.length : Int)) = true := decide_eq_true c26
                              clear c26
                              simp only [Option.some.injEq, Prod.mk.injEq] at H
                              obtain ⟨rfl, rfl, rfl⟩ := H
                              have p143 : 0 ≤ (x41_2 : Int) := of_decide_eq_true (by first | (with_reducible assumption) | assumption)
                              have q143 : x41_2 < (y140.length : Int) := of_decide_eq_true (by first | (with_reducible assumption) | assumption)
                              obtain ⟨ad143, e143, hx143_0⟩ := Kd.at_int (Kd.R_reads' HO_39.out).2.2 x41_2 p143 q143
                              cases e143
                              replace p143 := eq_true p143
                              replace q143 := eq_true q143
                              go_wp2_with (first | ((with_reducible refine gate_dst (N := 50) rfl ?_); refine Kd.R_lit (Kd.int .u8) _ 5 ?hg (N := 50) ?hd (xs := ([7, 8, 12, 10, 13, 9, 11, 92, a1] : List Int)) (inner := [.int .u8 7, .int .u8 8, .int .u8 12, .int .u8 10, .int .u8 13, .int .u8 9, .int .u8 11, .int .u8 92, .int .u8 a1]) (ok := fun _ => True) (okp := fun _ => True) ?hr ?hp (fun _ hk => hk) trivial (Below.refl _ _) (Nat.le_refl _) (by simp) ?_; (case hd => rfl); (case hg => rfl); (case hr => first | (go_simp; done) | (go_simp; rfl)); (case hp => exact (Reps.one (show Kd.M (Kd.int .u8) _ _ _ 7 [.int .u8 7] from rfl) (Reps.one (show Kd.M (Kd.int .u8) _ _ _ 8 [.int .u8 8] from rfl) (Reps.one (show Kd.M (Kd.int .u8) _ _ _ 12 [.int .u8 12] from rfl) (Reps.one (show Kd.M (Kd.int .u8) _ _ _ 10 [.int .u8 10] from rfl) (Reps.one (show Kd.M (Kd.int .u8) _ _ _ 13 [.int .u8 13] from rfl) (Reps.one (show Kd.M (Kd.int .u8) _ _ _ 9 [.int .u8 9] from rfl) (Reps.one (show Kd.M (Kd.int .u8) _ _ _ 11 [.int .u8 11] from rfl) (Reps.one (show Kd.M (Kd.int .u8) _ _ _ 92 [.int .u8 92] from rfl) (Reps.one (show Kd.M (Kd.int .u8) _ _ _ a1 [.int .u8 a1] from rfl) (Reps.none _ _))))))))))); intro v145 w27 ho28 hb hg_ hnew_; clear hg_ hnew_; (first | rw [← Ny144.out] at ho28 | (simp only [Int.reduceToNat] at ho28; rw [← Ny144.out] at ho28)); have n0_ := Aside0.mk (Kd.R_elder' (by (with_reducible repeat (first | apply Kd.R_alloc | apply Kd.R_drewN | apply Kd.R_drew)); exact HO_39.out) (Kd.R_base ho28) hb); have n1_ := Aside0.mk (Kd.R_lower (Kd.R_new' ho28 (Kd.R_lt (by (with_reducible repeat (first | apply Kd.R_alloc | apply Kd.R_drewN | apply Kd.R_drew)); exact HO_39.out))) (below_size (by repeat (first | (with_reducible first | exact HB.out | apply below_alloc | apply pw_below_drewN | apply below_drew1 | refine below_set ?_ GE136.out) | exact HB.out)))); have n2_ := Aside0.mk (blk_below (g := gb136) (o := .cells #[.int .i32 x137000_2, .bool x137001_2, .int .i64 x137002_2] 55 (0, 0)) (by (with_reducible repeat (first | refine blk_drewN ?_ _ | refine blk_drew ?_ | refine blk_alloc ?_ _)); exact BK136.out) hb); have n3_ := Aside0.mk (below_step (by repeat (first | (with_reducible first | exact HB.out | apply below_alloc | apply pw_below_drewN | apply below_drew1 | refine below_set ?_ GE136.out) | exact HB.out)) hb); clear HO_39; clear BK136; clear HB; have HO_39 := n0_; have HO146 := n1_; have BK136 := n2_; have HB := n3_; clear n0_ n1_ n2_ n3_; clear hb ho28; obtain ⟨Ao29, co29, eo29⟩ := Kd.R_slice HO146.out; subst eo29; have p147 : 0 ≤ (x41_2 : Int) := of_decide_eq_true (by first | (with_reducible assumption) | assumption); have q147 : x41_2 < (y144.length : Int) := of_decide_eq_true (by first | (with_reducible assumption) | assumption); obtain ⟨ad147, e147, hx147_0⟩ := Kd.at_int (Kd.R_reads' HO146.out).2.2 x41_2 p147 q147; cases e147; replace p147 := eq_true p147; replace q147 := eq_true q147; have hcz30_0 : w27.cell? ⟨gb136, 0, none⟩ = some (.int .i32 x137000_2) := (blk_cell BK136.out 0).trans rfl; have hcz30_1 : w27.cell? ⟨gb136, 1, none⟩ = some (.bool x137001_2) := (blk_cell BK136.out 1).trans rfl; have hcz30_2 : w27.cell? ⟨gb136, 2, none⟩ = some (.int .i64 x137002_2) := (blk_cell BK136.out 2).trans rfl; have hfz30_0 := blk_frozen BK136.out 0; have hfz30_1 := blk_frozen BK136.out 1; have hfz30_2 := blk_frozen BK136.out 2))
                              refine bodyPost_ret (results_cell_row rfl _ _ gb136 55 #[.int .i32 (wrap32 (rd y144 x41_2)), .bool true, .int .i64 2] (0, 0) _ rfl (by (with_reducible repeat (first | refine blk_drewN ?_ _ | refine blk_drew ?_ | refine blk_alloc ?_ _)); refine blk_put (cs := #[.int .i32 (wrap32 (rd y144 x41_2)), .bool true, .int .i64 x137002_2]) ?_ 2 _ rfl; (with_reducible repeat (first | refine blk_drewN ?_ _ | refine blk_drew ?_ | refine blk_alloc ?_ _)); refine blk_put (cs := #[.int .i32 (wrap32 (rd y144 x41_2)), .bool x137001_2, .int .i64 x137002_2]) ?_ 1 _ rfl; (with_reducible repeat (first | refine blk_drewN ?_ _ | refine blk_drew ?_ | refine blk_alloc ?_ _)); refine blk_put (cs := #[.int .i32 x137000_2, .bool x137001_2, .int .i64 x137002_2]) ?_ 0 _ rfl; (with_reducible repeat (first | refine blk_drewN ?_ _ | refine blk_drew ?_ | refine blk_alloc ?_ _)); exact BK136.out) Tryz.underlying55 rfl (by kernel_rfl)) rfl ?_
                              exact ⟨by first | rfl | (simp [errW_none, errW_some] <;> rfl) | (simp [*, errW_none, errW_some] <;> rfl), by repeat (first | (with_reducible first | exact HB.out | apply below_alloc | apply pw_below_drewN | apply below_drew1 | refine below_set ?_ GE136.out) | exact HB.out)⟩
                            · rw [if_neg c26] at H
                              exact absurd H (by simp)
                          · rw [if_neg c25] at H
                            have c25b0 : ((bt a0 1) == (rd y140 x41_2)) = false := beq_eq_false_iff_ne.mpr c25
                            have c25b1 : ((bt a0 1) != (rd y140 x41_2)) = true := bne_iff_ne.mpr c25
                            have H' := Aside0.mk H
                            clear H
                            have p143 : 0 ≤ (x41_2 : Int) := of_decide_eq_true (by first | (with_reducible assumption) | assumption)
                            have q143 : x41_2 < (y140.length : Int) := of_decide_eq_true (by first | (with_reducible assumption) | assumption)
                            obtain ⟨ad143, e143, hx143_0⟩ := Kd.at_int (Kd.R_reads' HO_39.out).2.2 x41_2 p143 q143
                            cases e143
                            replace p143 := eq_true p143
                            replace q143 := eq_true q143
                            go_wp2
                            go_roundg k2
                            case measure => have := HJ2.out; have := HK2.out; omega
                            case rel => exact ⟨(wrap64 (x41_2 + 1)), (x137000_2), (x137001_2), (x137002_2), (by first | rfl | (simp; done) | (simp [*]; done)), H', ⟨by have := HJ2.out; have := HK2.out; omega⟩, ⟨by (with_reducible repeat (first | apply Kd.R_alloc | apply Kd.R_drewN | apply Kd.R_drew)); exact HO_39.out⟩, ⟨by (with_reducible repeat (first | refine blk_drewN ?_ _ | refine blk_drew ?_ | refine blk_alloc ?_ _)); exact BK136.out⟩, ⟨by repeat (first | (with_reducible first | exact HB.out | apply below_alloc | apply pw_below_drewN | apply below_drew1 | refine below_set ?_ GE136.out) | exact HB.out)⟩⟩
                        · rw [if_neg c24] at H
                          exact absurd H (by simp)
                      · rw [if_neg c23] at H
                        exact absurd H (by simp)
                    · rw [if_neg c22] at H
                      have c22b0 : decide (x41_2 < (y140.length : Int)) = false := decide_eq_false c22
                      clear c22
                      have HC31 := Aside0.mk H
                      clear H
                      go_upto_region 14 with (fail)
                      go_cut [62] (fun v62 wc => ∃ (kq : Nat) (x62_30 : Bool), v62 = .bool x62_30 ∧ Aside0 (indentureref06_One.j2 kq a0 (bt a0 1) x62_30 = some (r1, r2, r3)) ∧ Aside0 (kq ≤ k2) ∧ Aside0 (wc.heap[gb136]? = some (.cells #[.int .i32 x137000_2, .bool x137001_2, .int .i64 x137002_2] 55 (0, 0))) ∧ Aside0 (Below w.heap.size w wc))
                      case first =>
                        have H := HC31.out
                        clear HC31
                        by_cases c32 : (bt a0 1) = 117
                        · rw [if_pos c32] at H
                          have c32b0 : ((bt a0 1) == 117) = true := beq_iff_eq.mpr c32
                          have c32b1 : ((bt a0 1) != 117) = false := bne_eq_false_iff_eq.mpr c32
                          clear c32
                          (first | rw [c32b0] | (simp only [i64_w, i32_w]; rw [c32b0]) | skip)
                          have H' := Aside0.mk H
                          clear H
                          go_wp2
                          go_meet
                          case rel => exact ⟨_, (true), (by first | rfl | (simp; done) | (simp [*]; done)), H', ⟨by have := HJ2.out; have := HK2.out; first | omega | exact Nat.le_refl _⟩, ⟨by (with_reducible repeat (first | refine blk_drewN ?_ _ | refine blk_drew ?_ | refine blk_alloc ?_ _)); exact BK136.out⟩, ⟨by repeat (first | (with_reducible first | exact HB.out | apply below_alloc | apply pw_below_drewN | apply below_drew1 | refine below_set ?_ GE136.out) | exact HB.out)⟩⟩
                        · rw [if_neg c32] at H
                          have c32b0 : ((bt a0 1) == 117) = false := beq_eq_false_iff_ne.mpr c32
                          have c32b1 : ((bt a0 1) != 117) = true := bne_iff_ne.mpr c32
                          (first | rw [c32b0] | (simp only [i64_w, i32_w]; rw [c32b0]) | skip)
                          have H' := Aside0.mk H
                          clear H
                          go_wp2
                          go_meet
                          case rel => exact ⟨_, (((bt a0 1) == 85)), (by first | rfl | (simp; done) | (simp [*]; done)), H', ⟨by have := HJ2.out; have := HK2.out; first | omega | exact Nat.le_refl _⟩, ⟨by (with_reducible repeat (first | refine blk_drewN ?_ _ | refine blk_drew ?_ | refine blk_alloc ?_ _)); exact BK136.out⟩, ⟨by repeat (first | (with_reducible first | exact HB.out | apply below_alloc | apply pw_below_drewN | apply below_drew1 | refine below_set ?_ GE136.out) | exact HB.out)⟩⟩
                      case rest =>
                        clear HC31
                        try clear c1
                        try clear p1
                        try clear q1
                        try clear hx1
                        try clear qi1
                        try clear c2
                        try clear p2
                        try clear c3
                        try clear p3
                        try clear c5
                        try clear c5b0
                        try clear c5b1
                        try clear c6
                        try clear c6b0
                        try clear c6b1
                        try clear p6
                        try clear p7
                        try clear q7
                        try clear hx7
                        try clear qi7
                        try clear c8
                        try clear c8b0
                        try clear c8b1
                        try clear p9
                        try clear q9
                        try clear hx9
                        try clear qi9
                        try clear c10
                        try clear c12
                        try clear c12b0
                        try clear c12b1
                        try clear p13
                        try clear q13
                        try clear hx13
                        try clear qi13
                        try clear c14
                        try clear c14b0
                        try clear c14b1
                        try clear p14
                        try clear q14
                        try clear hx14
                        try clear c15
                        try clear c15b0
                        try clear c15b1
                        try clear c17
                        try clear c17b0
                        try clear c17b1
                        try clear p18
                        try clear q18
                        try clear hx18
                        try clear qi18
                        try clear c19
                        try clear c22
                        try clear c22b0
                        try clear c23
                        try clear c23b0
                        try clear c24
                        try clear c24b0
                        try clear c25
                        try clear c25b0
                        try clear c25b1
                        try clear c26
                        try clear c26b0
                        try clear c32
                        try clear c32b0
                        try clear c32b1
                        try clear p32
                        try clear hcz11_0
                        try clear hcz11_1
                        try clear hcz11_2
                        try clear hcz16_0
                        try clear hcz16_1
                        try clear hcz16_2
                        try clear hcz30_0
                        try clear hcz30_1
                        try clear hcz30_2
                        try clear hfz11_0
                        try clear hfz11_1
                        try clear hfz11_2
                        try clear hfz16_0
                        try clear hfz16_1
                        try clear hfz16_2
                        try clear hfz30_0
                        try clear hfz30_1
                        try clear hfz30_2
                        try clear hx143_0
                        try clear hx147_0
                        try clear p1
                        try clear p13
                        try clear p143
                        try clear p147
                        try clear p18
                        try clear p2
                        try clear p7
                        try clear p9
                        try clear q1
                        try clear q13
                        try clear q143
                        try clear q147
                        try clear q18
                        try clear q7
                        try clear q9
                        obtain ⟨kq, x62_30, rfl, HA, HJ30, BK136, HB⟩ := hcut
                        cases kq with
                        | zero => exact absurd HA.out (by simp [indentureref06_One.j2])
                        | succ kj30 =>
                          have H := HA.out
                          clear HA
                          simp only [indentureref06_One.j2] at H
                          by_cases c33 : x62_30 = true
                          · subst c33
                            have H1 : (if (bt a0 1) = 85 then (if 2 ≤ (a0.size : Int) then ((indentureref06_value.f kj30 (a0.extract 2 a0.size) 8 16).bind fun t148 => (if t148 < 0 then (some (0, false, 0)) else (if t148 > 1114111 then (some (0, false, 0)) else (if t148 ≥ 55296 then (if t148 ≤ 57343 then (some (0, false, 0)) else (some (wrap32 (t148), false, 2 + 8))) else (some (wrap32 (t148), false, 2 + 8)))))) else (none)) else (if 2 ≤ (a0.size : Int) then ((indentureref06_value.f kj30 (a0.extract 2 a0.size) 4 16).bind fun t149 => (if t149 < 0 then (some (0, false, 0)) else (if t149 > 1114111 then (some (0, false, 0)) else (if t149 ≥ 55296 then (if t149 ≤ 57343 then (some (0, false, 0)) else (some (wrap32 (t149), false, 2 + 4))) else (some (wrap32 (t149), false, 2 + 4)))))) else (none))) = some (r1, r2, r3) := by rw [if_pos rfl] at H; exact H
                            clear H
                            have H := H1
                            clear H1
                            by_cases c34 : (bt a0 1) = 85
                            · rw [if_pos c34] at H
                              have c34b0 : ((bt a0 1) == 85) = true := beq_iff_eq.mpr c34
                              have c34b1 : ((bt a0 1) != 85) = false := bne_eq_false_iff_eq.mpr c34
                              clear c34
                              by_cases c35 : 2 ≤ (a0.size : Int)
                              · rw [if_pos c35] at H
                                have c35b0 := eq_true c35
                                have c35b1 : decide (2 ≤ (a0.size : Int)) = true := decide_eq_true c35
                                clear c35
                                replace H := Option.bind_eq_some_iff.mp H
                                obtain ⟨t148, A360, H⟩ := H
                                replace H : (if t148 < 0 then (some (0, false, 0)) else (if t148 > 1114111 then (some (0, false, 0)) else (if t148 ≥ 55296 then (if t148 ≤ 57343 then (some (0, false, 0)) else (some (wrap32 (t148), false, 2 + 8))) else (some (wrap32 (t148), false, 2 + 8))))) = some (r1, r2, r3) := H
                                have A36 := Aside0.mk A360
                                clear A360
                                by_cases c37 : t148 < 0
                                · rw [if_pos c37] at H
                                  have c37b0 : decide (t148 < 0) = true := decide_eq_true c37
                                  clear c37
                                  simp only [Option.some.injEq, Prod.mk.injEq] at H
                                  obtain ⟨rfl, rfl, rfl⟩ := H
                                  go_wp2_with (first | ((with_reducible refine gate_callee (f := 43) rfl ?_); refine goesL_ (some 68) rfl rfl Tryz.func43 (by kernel_rfl) rfl #[.string (a0.extract 2 a0.size), .int .i64 8, .int .i64 16] rfl (by (try simp only [List.map_toArray, List.map_cons, List.map_nil]); first | done | rfl | (simp only [List.length_drop, List.length_take]; rfl)) ?_; (with_reducible refine (indentureref06_value.calls kj30 (a0.extract 2 a0.size) 8 16 t148 _ A36.out).mono ?_); rintro e w' ⟨rfl, ⟨nd, rfl⟩⟩; refine ⟨_, rfl, ?_⟩; (try (rw [drewN_self wc]; generalize hq_ : World.drewN wc _ = wc; have n0_ : Aside0 (wc.heap[gb136]? = some (.cells #[.int .i32 x137000_2, .bool x137001_2, .int .i64 x137002_2] 55 (0, 0))) := ⟨by rw [← hq_]; exact (by (with_reducible repeat (first | refine blk_drewN ?_ _ | refine blk_drew ?_ | refine blk_alloc ?_ _)); exact BK136.out)⟩; have n1_ : Aside0 (Below w.heap.size w wc) := ⟨by rw [← hq_]; exact (by repeat (first | (with_reducible first | exact HB.out | apply below_alloc | apply pw_below_drewN | apply below_drew1 | refine below_set ?_ GE136.out) | exact HB.out))⟩; clear BK136 HB hq_; have BK136 := n0_; have HB := n1_; clear n0_ n1_)); have hcz38_0 : wc.cell? ⟨gb136, 0, none⟩ = some (.int .i32 x137000_2) := (blk_cell BK136.out 0).trans rfl; have hcz38_1 : wc.cell? ⟨gb136, 1, none⟩ = some (.bool x137001_2) := (blk_cell BK136.out 1).trans rfl; have hcz38_2 : wc.cell? ⟨gb136, 2, none⟩ = some (.int .i64 x137002_2) := (blk_cell BK136.out 2).trans rfl; have hfz38_0 := blk_frozen BK136.out 0; have hfz38_1 := blk_frozen BK136.out 1; have hfz38_2 := blk_frozen BK136.out 2))
                                  refine bodyPost_ret (results_cell_row rfl _ _ gb136 55 #[.int .i32 0, .bool false, .int .i64 0] (0, 0) _ rfl (by (with_reducible repeat (first | refine blk_drewN ?_ _ | refine blk_drew ?_ | refine blk_alloc ?_ _)); refine blk_put (cs := #[.int .i32 0, .bool false, .int .i64 x137002_2]) ?_ 2 _ rfl; (with_reducible repeat (first | refine blk_drewN ?_ _ | refine blk_drew ?_ | refine blk_alloc ?_ _)); refine blk_put (cs := #[.int .i32 0, .bool x137001_2, .int .i64 x137002_2]) ?_ 1 _ rfl; (with_reducible repeat (first | refine blk_drewN ?_ _ | refine blk_drew ?_ | refine blk_alloc ?_ _)); refine blk_put (cs := #[.int .i32 x137000_2, .bool x137001_2, .int .i64 x137002_2]) ?_ 0 _ rfl; (with_reducible repeat (first | refine blk_drewN ?_ _ | refine blk_drew ?_ | refine blk_alloc ?_ _)); exact BK136.out) Tryz.underlying55 rfl (by kernel_rfl)) rfl ?_
                                  exact ⟨by first | rfl | (simp [errW_none, errW_some] <;> rfl) | (simp [*, errW_none, errW_some] <;> rfl), by repeat (first | (with_reducible first | exact HB.out | apply below_alloc | apply pw_below_drewN | apply below_drew1 | refine below_set ?_ GE136.out) | exact HB.out)⟩
                                · rw [if_neg c37] at H
                                  have c37b0 : decide (t148 < 0) = false := decide_eq_false c37
                                  clear c37
                                  by_cases c39 : t148 > 1114111
                                  · rw [if_pos c39] at H
                                    have c39b0 : decide (1114111 < t148) = true := decide_eq_true c39
                                    clear c39
                                    simp only [Option.some.injEq, Prod.mk.injEq] at H
                                    obtain ⟨rfl, rfl, rfl⟩ := H
                                    go_wp2_with (first | ((with_reducible refine gate_callee (f := 43) rfl ?_); refine goesL_ (some 68) rfl rfl Tryz.func43 (by kernel_rfl) rfl #[.string (a0.extract 2 a0.size), .int .i64 8, .int .i64 16] rfl (by (try simp only [List.map_toArray, List.map_cons, List.map_nil]); first | done | rfl | (simp only [List.length_drop, List.length_take]; rfl)) ?_; (with_reducible refine (indentureref06_value.calls kj30 (a0.extract 2 a0.size) 8 16 t148 _ A36.out).mono ?_); rintro e w' ⟨rfl, ⟨nd, rfl⟩⟩; refine ⟨_, rfl, ?_⟩; (try (rw [drewN_self wc]; generalize hq_ : World.drewN wc _ = wc; have n0_ : Aside0 (wc.heap[gb136]? = some (.cells #[.int .i32 x137000_2, .bool x137001_2, .int .i64 x137002_2] 55 (0, 0))) := ⟨by rw [← hq_]; exact (by (with_reducible repeat (first | refine blk_drewN ?_ _ | refine blk_drew ?_ | refine blk_alloc ?_ _)); exact BK136.out)⟩; have n1_ : Aside0 (Below w.heap.size w wc) := ⟨by rw [← hq_]; exact (by repeat (first | (with_reducible first | exact HB.out | apply below_alloc | apply pw_below_drewN | apply below_drew1 | refine below_set ?_ GE136.out) | exact HB.out))⟩; clear BK136 HB hq_; have BK136 := n0_; have HB := n1_; clear n0_ n1_)); have hcz40_0 : wc.cell? ⟨gb136, 0, none⟩ = some (.int .i32 x137000_2) := (blk_cell BK136.out 0).trans rfl; have hcz40_1 : wc.cell? ⟨gb136, 1, none⟩ = some (.bool x137001_2) := (blk_cell BK136.out 1).trans rfl; have hcz40_2 : wc.cell? ⟨gb136, 2, none⟩ = some (.int .i64 x137002_2) := (blk_cell BK136.out 2).trans rfl; have hfz40_0 := blk_frozen BK136.out 0; have hfz40_1 := blk_frozen BK136.out 1; have hfz40_2 := blk_frozen BK136.out 2))
                                    refine bodyPost_ret (results_cell_row rfl _ _ gb136 55 #[.int .i32 0, .bool false, .int .i64 0] (0, 0) _ rfl (by (with_reducible repeat (first | refine blk_drewN ?_ _ | refine blk_drew ?_ | refine blk_alloc ?_ _)); refine blk_put (cs := #[.int .i32 0, .bool false, .int .i64 x137002_2]) ?_ 2 _ rfl; (with_reducible repeat (first | refine blk_drewN ?_ _ | refine blk_drew ?_ | refine blk_alloc ?_ _)); refine blk_put (cs := #[.int .i32 0, .bool x137001_2, .int .i64 x137002_2]) ?_ 1 _ rfl; (with_reducible repeat (first | refine blk_drewN ?_ _ | refine blk_drew ?_ | refine blk_alloc ?_ _)); refine blk_put (cs := #[.int .i32 x137000_2, .bool x137001_2, .int .i64 x137002_2]) ?_ 0 _ rfl; (with_reducible repeat (first | refine blk_drewN ?_ _ | refine blk_drew ?_ | refine blk_alloc ?_ _)); exact BK136.out) Tryz.underlying55 rfl (by kernel_rfl)) rfl ?_
                                    exact ⟨by first | rfl | (simp [errW_none, errW_some] <;> rfl) | (simp [*, errW_none, errW_some] <;> rfl), by repeat (first | (with_reducible first | exact HB.out | apply below_alloc | apply pw_below_drewN | apply below_drew1 | refine below_set ?_ GE136.out) | exact HB.out)⟩
                                  · rw [if_neg c39] at H
                                    have c39b0 : decide (1114111 < t148) = false := decide_eq_false c39
                                    clear c39
                                    by_cases c41 : t148 ≥ 55296
                                    · rw [if_pos c41] at H
                                      have c41b0 : decide (55296 ≤ t148) = true := decide_eq_true c41
                                      clear c41
                                      by_cases c42 : t148 ≤ 57343
                                      · rw [if_pos c42] at H
                                        have c42b0 : decide (t148 ≤ 57343) = true := decide_eq_true c42
                                        clear c42
                                        simp only [Option.some.injEq, Prod.mk.injEq] at H
                                        obtain ⟨rfl, rfl, rfl⟩ := H
                                        go_wp2_with (first | ((with_reducible refine gate_callee (f := 43) rfl ?_); refine goesL_ (some 68) rfl rfl Tryz.func43 (by kernel_rfl) rfl #[.string (a0.extract 2 a0.size), .int .i64 8, .int .i64 16] rfl (by (try simp only [List.map_toArray, List.map_cons, List.map_nil]); first | done | rfl | (simp only [List.length_drop, List.length_take]; rfl)) ?_; (with_reducible refine (indentureref06_value.calls kj30 (a0.extract 2 a0.size) 8 16 t148 _ A36.out).mono ?_); rintro e w' ⟨rfl, ⟨nd, rfl⟩⟩; refine ⟨_, rfl, ?_⟩; (try (rw [drewN_self wc]; generalize hq_ : World.drewN wc _ = wc; have n0_ : Aside0 (wc.heap[gb136]? = some (.cells #[.int .i32 x137000_2, .bool x137001_2, .int .i64 x137002_2] 55 (0, 0))) := ⟨by rw [← hq_]; exact (by (with_reducible repeat (first | refine blk_drewN ?_ _ | refine blk_drew ?_ | refine blk_alloc ?_ _)); exact BK136.out)⟩; have n1_ : Aside0 (Below w.heap.size w wc) := ⟨by rw [← hq_]; exact (by repeat (first | (with_reducible first | exact HB.out | apply below_alloc | apply pw_below_drewN | apply below_drew1 | refine below_set ?_ GE136.out) | exact HB.out))⟩; clear BK136 HB hq_; have BK136 := n0_; have HB := n1_; clear n0_ n1_)); have hcz43_0 : wc.cell? ⟨gb136, 0, none⟩ = some (.int .i32 x137000_2) := (blk_cell BK136.out 0).trans rfl; have hcz43_1 : wc.cell? ⟨gb136, 1, none⟩ = some (.bool x137001_2) := (blk_cell BK136.out 1).trans rfl; have hcz43_2 : wc.cell? ⟨gb136, 2, none⟩ = some (.int .i64 x137002_2) := (blk_cell BK136.out 2).trans rfl; have hfz43_0 := blk_frozen BK136.out 0; have hfz43_1 := blk_frozen BK136.out 1; have hfz43_2 := blk_frozen BK136.out 2))
                                        refine bodyPost_ret (results_cell_row rfl _ _ gb136 55 #[.int .i32 0, .bool false, .int .i64 0] (0, 0) _ rfl (by (with_reducible repeat (first | refine blk_drewN ?_ _ | refine blk_drew ?_ | refine blk_alloc ?_ _)); refine blk_put (cs := #[.int .i32 0, .bool false, .int .i64 x137002_2]) ?_ 2 _ rfl; (with_reducible repeat (first | refine blk_drewN ?_ _ | refine blk_drew ?_ | refine blk_alloc ?_ _)); refine blk_put (cs := #[.int .i32 0, .bool x137001_2, .int .i64 x137002_2]) ?_ 1 _ rfl; (with_reducible repeat (first | refine blk_drewN ?_ _ | refine blk_drew ?_ | refine blk_alloc ?_ _)); refine blk_put (cs := #[.int .i32 x137000_2, .bool x137001_2, .int .i64 x137002_2]) ?_ 0 _ rfl; (with_reducible repeat (first | refine blk_drewN ?_ _ | refine blk_drew ?_ | refine blk_alloc ?_ _)); exact BK136.out) Tryz.underlying55 rfl (by kernel_rfl)) rfl ?_
                                        exact ⟨by first | rfl | (simp [errW_none, errW_some] <;> rfl) | (simp [*, errW_none, errW_some] <;> rfl), by repeat (first | (with_reducible first | exact HB.out | apply below_alloc | apply pw_below_drewN | apply below_drew1 | refine below_set ?_ GE136.out) | exact HB.out)⟩
                                      · rw [if_neg c42] at H
                                        have c42b0 : decide (t148 ≤ 57343) = false := decide_eq_false c42
                                        clear c42
                                        simp only [Option.some.injEq, Prod.mk.injEq] at H
                                        obtain ⟨rfl, rfl, rfl⟩ := H
                                        go_wp2_with (first | ((with_reducible refine gate_callee (f := 43) rfl ?_); refine goesL_ (some 68) rfl rfl Tryz.func43 (by kernel_rfl) rfl #[.string (a0.extract 2 a0.size), .int .i64 8, .int .i64 16] rfl (by (try simp only [List.map_toArray, List.map_cons, List.map_nil]); first | done | rfl | (simp only [List.length_drop, List.length_take]; rfl)) ?_; (with_reducible refine (indentureref06_value.calls kj30 (a0.extract 2 a0.size) 8 16 t148 _ A36.out).mono ?_); rintro e w' ⟨rfl, ⟨nd, rfl⟩⟩; refine ⟨_, rfl, ?_⟩; (try (rw [drewN_self wc]; generalize hq_ : World.drewN wc _ = wc; have n0_ : Aside0 (wc.heap[gb136]? = some (.cells #[.int .i32 x137000_2, .bool x137001_2, .int .i64 x137002_2] 55 (0, 0))) := ⟨by rw [← hq_]; exact (by (with_reducible repeat (first | refine blk_drewN ?_ _ | refine blk_drew ?_ | refine blk_alloc ?_ _)); exact BK136.out)⟩; have n1_ : Aside0 (Below w.heap.size w wc) := ⟨by rw [← hq_]; exact (by repeat (first | (with_reducible first | exact HB.out | apply below_alloc | apply pw_below_drewN | apply below_drew1 | refine below_set ?_ GE136.out) | exact HB.out))⟩; clear BK136 HB hq_; have BK136 := n0_; have HB := n1_; clear n0_ n1_)); have hcz44_0 : wc.cell? ⟨gb136, 0, none⟩ = some (.int .i32 x137000_2) := (blk_cell BK136.out 0).trans rfl; have hcz44_1 : wc.cell? ⟨gb136, 1, none⟩ = some (.bool x137001_2) := (blk_cell BK136.out 1).trans rfl; have hcz44_2 : wc.cell? ⟨gb136, 2, none⟩ = some (.int .i64 x137002_2) := (blk_cell BK136.out 2).trans rfl; have hfz44_0 := blk_frozen BK136.out 0; have hfz44_1 := blk_frozen BK136.out 1; have hfz44_2 := blk_frozen BK136.out 2))
                                        refine bodyPost_ret (results_cell_row rfl _ _ gb136 55 #[.int .i32 (wrap32 (t148)), .bool false, .int .i64 (2 + 8)] (0, 0) _ rfl (by (with_reducible repeat (first | refine blk_drewN ?_ _ | refine blk_drew ?_ | refine blk_alloc ?_ _)); refine blk_put (cs := #[.int .i32 (wrap32 (t148)), .bool false, .int .i64 x137002_2]) ?_ 2 _ rfl; (with_reducible repeat (first | refine blk_drewN ?_ _ | refine blk_drew ?_ | refine blk_alloc ?_ _)); refine blk_put (cs := #[.int .i32 (wrap32 (t148)), .bool x137001_2, .int .i64 x137002_2]) ?_ 1 _ rfl; (with_reducible repeat (first | refine blk_drewN ?_ _ | refine blk_drew ?_ | refine blk_alloc ?_ _)); refine blk_put (cs := #[.int .i32 x137000_2, .bool x137001_2, .int .i64 x137002_2]) ?_ 0 _ rfl; (with_reducible repeat (first | refine blk_drewN ?_ _ | refine blk_drew ?_ | refine blk_alloc ?_ _)); exact BK136.out) Tryz.underlying55 rfl (by kernel_rfl)) rfl ?_
                                        exact ⟨by first | rfl | (simp [errW_none, errW_some] <;> rfl) | (simp [*, errW_none, errW_some] <;> rfl), by repeat (first | (with_reducible first | exact HB.out | apply below_alloc | apply pw_below_drewN | apply below_drew1 | refine below_set ?_ GE136.out) | exact HB.out)⟩
                                    · rw [if_neg c41] at H
                                      have c41b0 : decide (55296 ≤ t148) = false := decide_eq_false c41
                                      clear c41
                                      simp only [Option.some.injEq, Prod.mk.injEq] at H
                                      obtain ⟨rfl, rfl, rfl⟩ := H
                                      go_wp2_with (first | ((with_reducible refine gate_callee (f := 43) rfl ?_); refine goesL_ (some 68) rfl rfl Tryz.func43 (by kernel_rfl) rfl #[.string (a0.extract 2 a0.size), .int .i64 8, .int .i64 16] rfl (by (try simp only [List.map_toArray, List.map_cons, List.map_nil]); first | done | rfl | (simp only [List.length_drop, List.length_take]; rfl)) ?_; (with_reducible refine (indentureref06_value.calls kj30 (a0.extract 2 a0.size) 8 16 t148 _ A36.out).mono ?_); rintro e w' ⟨rfl, ⟨nd, rfl⟩⟩; refine ⟨_, rfl, ?_⟩; (try (rw [drewN_self wc]; generalize hq_ : World.drewN wc _ = wc; have n0_ : Aside0 (wc.heap[gb136]? = some (.cells #[.int .i32 x137000_2, .bool x137001_2, .int .i64 x137002_2] 55 (0, 0))) := ⟨by rw [← hq_]; exact (by (with_reducible repeat (first | refine blk_drewN ?_ _ | refine blk_drew ?_ | refine blk_alloc ?_ _)); exact BK136.out)⟩; have n1_ : Aside0 (Below w.heap.size w wc) := ⟨by rw [← hq_]; exact (by repeat (first | (with_reducible first | exact HB.out | apply below_alloc | apply pw_below_drewN | apply below_drew1 | refine below_set ?_ GE136.out) | exact HB.out))⟩; clear BK136 HB hq_; have BK136 := n0_; have HB := n1_; clear n0_ n1_)); have hcz45_0 : wc.cell? ⟨gb136, 0, none⟩ = some (.int .i32 x137000_2) := (blk_cell BK136.out 0).trans rfl; have hcz45_1 : wc.cell? ⟨gb136, 1, none⟩ = some (.bool x137001_2) := (blk_cell BK136.out 1).trans rfl; have hcz45_2 : wc.cell? ⟨gb136, 2, none⟩ = some (.int .i64 x137002_2) := (blk_cell BK136.out 2).trans rfl; have hfz45_0 := blk_frozen BK136.out 0; have hfz45_1 := blk_frozen BK136.out 1; have hfz45_2 := blk_frozen BK136.out 2))
                                      refine bodyPost_ret (results_cell_row rfl _ _ gb136 55 #[.int .i32 (wrap32 (t148)), .bool false, .int .i64 (2 + 8)] (0, 0) _ rfl (by (with_reducible repeat (first | refine blk_drewN ?_ _ | refine blk_drew ?_ | refine blk_alloc ?_ _)); refine blk_put (cs := #[.int .i32 (wrap32 (t148)), .bool false, .int .i64 x137002_2]) ?_ 2 _ rfl; (with_reducible repeat (first | refine blk_drewN ?_ _ | refine blk_drew ?_ | refine blk_alloc ?_ _)); refine blk_put (cs := #[.int .i32 (wrap32 (t148)), .bool x137001_2, .int .i64 x137002_2]) ?_ 1 _ rfl; (with_reducible repeat (first | refine blk_drewN ?_ _ | refine blk_drew ?_ | refine blk_alloc ?_ _)); refine blk_put (cs := #[.int .i32 x137000_2, .bool x137001_2, .int .i64 x137002_2]) ?_ 0 _ rfl; (with_reducible repeat (first | refine blk_drewN ?_ _ | refine blk_drew ?_ | refine blk_alloc ?_ _)); exact BK136.out) Tryz.underlying55 rfl (by kernel_rfl)) rfl ?_
                                      exact ⟨by first | rfl | (simp [errW_none, errW_some] <;> rfl) | (simp [*, errW_none, errW_some] <;> rfl), by repeat (first | (with_reducible first | exact HB.out | apply below_alloc | apply pw_below_drewN | apply below_drew1 | refine below_set ?_ GE136.out) | exact HB.out)⟩
                              · rw [if_neg c35] at H
                                exact absurd H (by simp)
                            · rw [if_neg c34] at H
                              have c34b0 : ((bt a0 1) == 85) = false := beq_eq_false_iff_ne.mpr c34
                              have c34b1 : ((bt a0 1) != 85) = true := bne_iff_ne.mpr c34
                              by_cases c46 : 2 ≤ (a0.size : Int)
                              · rw [if_pos c46] at H
                                have c46b0 := eq_true c46
                                have c46b1 : decide (2 ≤ (a0.size : Int)) = true := decide_eq_true c46
                                clear c46
                                replace H := Option.bind_eq_some_iff.mp H
                                obtain ⟨t149, A470, H⟩ := H
                                replace H : (if t149 < 0 then (some (0, false, 0)) else (if t149 > 1114111 then (some (0, false, 0)) else (if t149 ≥ 55296 then (if t149 ≤ 57343 then (some (0, false, 0)) else (some (wrap32 (t149), false, 2 + 4))) else (some (wrap32 (t149), false, 2 + 4))))) = some (r1, r2, r3) := H
                                have A47 := Aside0.mk A470
                                clear A470
                                by_cases c48 : t149 < 0
                                · rw [if_pos c48] at H
                                  have c48b0 : decide (t149 < 0) = true := decide_eq_true c48
                                  clear c48
                                  simp only [Option.some.injEq, Prod.mk.injEq] at H
                                  obtain ⟨rfl, rfl, rfl⟩ := H
                                  go_wp2_with (first | ((with_reducible refine gate_callee (f := 43) rfl ?_); refine goesL_ (some 68) rfl rfl Tryz.func43 (by kernel_rfl) rfl #[.string (a0.extract 2 a0.size), .int .i64 4, .int .i64 16] rfl (by (try simp only [List.map_toArray, List.map_cons, List.map_nil]); first | done | rfl | (simp only [List.length_drop, List.length_take]; rfl)) ?_; (with_reducible refine (indentureref06_value.calls kj30 (a0.extract 2 a0.size) 4 16 t149 _ A47.out).mono ?_); rintro e w' ⟨rfl, ⟨nd, rfl⟩⟩; refine ⟨_, rfl, ?_⟩; (try (rw [drewN_self wc]; generalize hq_ : World.drewN wc _ = wc; have n0_ : Aside0 (wc.heap[gb136]? = some (.cells #[.int .i32 x137000_2, .bool x137001_2, .int .i64 x137002_2] 55 (0, 0))) := ⟨by rw [← hq_]; exact (by (with_reducible repeat (first | refine blk_drewN ?_ _ | refine blk_drew ?_ | refine blk_alloc ?_ _)); exact BK136.out)⟩; have n1_ : Aside0 (Below w.heap.size w wc) := ⟨by rw [← hq_]; exact (by repeat (first | (with_reducible first | exact HB.out | apply below_alloc | apply pw_below_drewN | apply below_drew1 | refine below_set ?_ GE136.out) | exact HB.out))⟩; clear BK136 HB hq_; have BK136 := n0_; have HB := n1_; clear n0_ n1_)); have hcz49_0 : wc.cell? ⟨gb136, 0, none⟩ = some (.int .i32 x137000_2) := (blk_cell BK136.out 0).trans rfl; have hcz49_1 : wc.cell? ⟨gb136, 1, none⟩ = some (.bool x137001_2) := (blk_cell BK136.out 1).trans rfl; have hcz49_2 : wc.cell? ⟨gb136, 2, none⟩ = some (.int .i64 x137002_2) := (blk_cell BK136.out 2).trans rfl; have hfz49_0 := blk_frozen BK136.out 0; have hfz49_1 := blk_frozen BK136.out 1; have hfz49_2 := blk_frozen BK136.out 2))
                                  refine bodyPost_ret (results_cell_row rfl _ _ gb136 55 #[.int .i32 0, .bool false, .int .i64 0] (0, 0) _ rfl (by (with_reducible repeat (first | refine blk_drewN ?_ _ | refine blk_drew ?_ | refine blk_alloc ?_ _)); refine blk_put (cs := #[.int .i32 0, .bool false, .int .i64 x137002_2]) ?_ 2 _ rfl; (with_reducible repeat (first | refine blk_drewN ?_ _ | refine blk_drew ?_ | refine blk_alloc ?_ _)); refine blk_put (cs := #[.int .i32 0, .bool x137001_2, .int .i64 x137002_2]) ?_ 1 _ rfl; (with_reducible repeat (first | refine blk_drewN ?_ _ | refine blk_drew ?_ | refine blk_alloc ?_ _)); refine blk_put (cs := #[.int .i32 x137000_2, .bool x137001_2, .int .i64 x137002_2]) ?_ 0 _ rfl; (with_reducible repeat (first | refine blk_drewN ?_ _ | refine blk_drew ?_ | refine blk_alloc ?_ _)); exact BK136.out) Tryz.underlying55 rfl (by kernel_rfl)) rfl ?_
                                  exact ⟨by first | rfl | (simp [errW_none, errW_some] <;> rfl) | (simp [*, errW_none, errW_some] <;> rfl), by repeat (first | (with_reducible first | exact HB.out | apply below_alloc | apply pw_below_drewN | apply below_drew1 | refine below_set ?_ GE136.out) | exact HB.out)⟩
                                · rw [if_neg c48] at H
                                  have c48b0 : decide (t149 < 0) = false := decide_eq_false c48
                                  clear c48
                                  by_cases c50 : t149 > 1114111
                                  · rw [if_pos c50] at H
                                    have c50b0 : decide (1114111 < t149) = true := decide_eq_true c50
                                    clear c50
                                    simp only [Option.some.injEq, Prod.mk.injEq] at H
                                    obtain ⟨rfl, rfl, rfl⟩ := H
                                    go_wp2_with (first | ((with_reducible refine gate_callee (f := 43) rfl ?_); refine goesL_ (some 68) rfl rfl Tryz.func43 (by kernel_rfl) rfl #[.string (a0.extract 2 a0.size), .int .i64 4, .int .i64 16] rfl (by (try simp only [List.map_toArray, List.map_cons, List.map_nil]); first | done | rfl | (simp only [List.length_drop, List.length_take]; rfl)) ?_; (with_reducible refine (indentureref06_value.calls kj30 (a0.extract 2 a0.size) 4 16 t149 _ A47.out).mono ?_); rintro e w' ⟨rfl, ⟨nd, rfl⟩⟩; refine ⟨_, rfl, ?_⟩; (try (rw [drewN_self wc]; generalize hq_ : World.drewN wc _ = wc; have n0_ : Aside0 (wc.heap[gb136]? = some (.cells #[.int .i32 x137000_2, .bool x137001_2, .int .i64 x137002_2] 55 (0, 0))) := ⟨by rw [← hq_]; exact (by (with_reducible repeat (first | refine blk_drewN ?_ _ | refine blk_drew ?_ | refine blk_alloc ?_ _)); exact BK136.out)⟩; have n1_ : Aside0 (Below w.heap.size w wc) := ⟨by rw [← hq_]; exact (by repeat (first | (with_reducible first | exact HB.out | apply below_alloc | apply pw_below_drewN | apply below_drew1 | refine below_set ?_ GE136.out) | exact HB.out))⟩; clear BK136 HB hq_; have BK136 := n0_; have HB := n1_; clear n0_ n1_)); have hcz51_0 : wc.cell? ⟨gb136, 0, none⟩ = some (.int .i32 x137000_2) := (blk_cell BK136.out 0).trans rfl; have hcz51_1 : wc.cell? ⟨gb136, 1, none⟩ = some (.bool x137001_2) := (blk_cell BK136.out 1).trans rfl; have hcz51_2 : wc.cell? ⟨gb136, 2, none⟩ = some (.int .i64 x137002_2) := (blk_cell BK136.out 2).trans rfl; have hfz51_0 := blk_frozen BK136.out 0; have hfz51_1 := blk_frozen BK136.out 1; have hfz51_2 := blk_frozen BK136.out 2))
                                    refine bodyPost_ret (results_cell_row rfl _ _ gb136 55 #[.int .i32 0, .bool false, .int .i64 0] (0, 0) _ rfl (by (with_reducible repeat (first | refine blk_drewN ?_ _ | refine blk_drew ?_ | refine blk_alloc ?_ _)); refine blk_put (cs := #[.int .i32 0, .bool false, .int .i64 x137002_2]) ?_ 2 _ rfl; (with_reducible repeat (first | refine blk_drewN ?_ _ | refine blk_drew ?_ | refine blk_alloc ?_ _)); refine blk_put (cs := #[.int .i32 0, .bool x137001_2, .int .i64 x137002_2]) ?_ 1 _ rfl; (with_reducible repeat (first | refine blk_drewN ?_ _ | refine blk_drew ?_ | refine blk_alloc ?_ _)); refine blk_put (cs := #[.int .i32 x137000_2, .bool x137001_2, .int .i64 x137002_2]) ?_ 0 _ rfl; (with_reducible repeat (first | refine blk_drewN ?_ _ | refine blk_drew ?_ | refine blk_alloc ?_ _)); exact BK136.out) Tryz.underlying55 rfl (by kernel_rfl)) rfl ?_
                                    exact ⟨by first | rfl | (simp [errW_none, errW_some] <;> rfl) | (simp [*, errW_none, errW_some] <;> rfl), by repeat (first | (with_reducible first | exact HB.out | apply below_alloc | apply pw_below_drewN | apply below_drew1 | refine below_set ?_ GE136.out) | exact HB.out)⟩
                                  · rw [if_neg c50] at H
                                    have c50b0 : decide (1114111 < t149) = false := decide_eq_false c50
                                    clear c50
                                    by_cases c52 : t149 ≥ 55296
                                    · rw [if_pos c52] at H
                                      have c52b0 : decide (55296 ≤ t149) = true := decide_eq_true c52
                                      clear c52
                                      by_cases c53 : t149 ≤ 57343
                                      · rw [if_pos c53] at H
                                        have c53b0 : decide (t149 ≤ 57343) = true := decide_eq_true c53
                                        clear c53
                                        simp only [Option.some.injEq, Prod.mk.injEq] at H
                                        obtain ⟨rfl, rfl, rfl⟩ := H
                                        go_wp2_with (first | ((with_reducible refine gate_callee (f := 43) rfl ?_); refine goesL_ (some 68) rfl rfl Tryz.func43 (by kernel_rfl) rfl #[.string (a0.extract 2 a0.size), .int .i64 4, .int .i64 16] rfl (by (try simp only [List.map_toArray, List.map_cons, List.map_nil]); first | done | rfl | (simp only [List.length_drop, List.length_take]; rfl)) ?_; (with_reducible refine (indentureref06_value.calls kj30 (a0.extract 2 a0.size) 4 16 t149 _ A47.out).mono ?_); rintro e w' ⟨rfl, ⟨nd, rfl⟩⟩; refine ⟨_, rfl, ?_⟩; (try (rw [drewN_self wc]; generalize hq_ : World.drewN wc _ = wc; have n0_ : Aside0 (wc.heap[gb136]? = some (.cells #[.int .i32 x137000_2, .bool x137001_2, .int .i64 x137002_2] 55 (0, 0))) := ⟨by rw [← hq_]; exact (by (with_reducible repeat (first | refine blk_drewN ?_ _ | refine blk_drew ?_ | refine blk_alloc ?_ _)); exact BK136.out)⟩; have n1_ : Aside0 (Below w.heap.size w wc) := ⟨by rw [← hq_]; exact (by repeat (first | (with_reducible first | exact HB.out | apply below_alloc | apply pw_below_drewN | apply below_drew1 | refine below_set ?_ GE136.out) | exact HB.out))⟩; clear BK136 HB hq_; have BK136 := n0_; have HB := n1_; clear n0_ n1_)); have hcz54_0 : wc.cell? ⟨gb136, 0, none⟩ = some (.int .i32 x137000_2) := (blk_cell BK136.out 0).trans rfl; have hcz54_1 : wc.cell? ⟨gb136, 1, none⟩ = some (.bool x137001_2) := (blk_cell BK136.out 1).trans rfl; have hcz54_2 : wc.cell? ⟨gb136, 2, none⟩ = some (.int .i64 x137002_2) := (blk_cell BK136.out 2).trans rfl; have hfz54_0 := blk_frozen BK136.out 0; have hfz54_1 := blk_frozen BK136.out 1; have hfz54_2 := blk_frozen BK136.out 2))
                                        refine bodyPost_ret (results_cell_row rfl _ _ gb136 55 #[.int .i32 0, .bool false, .int .i64 0] (0, 0) _ rfl (by (with_reducible repeat (first | refine blk_drewN ?_ _ | refine blk_drew ?_ | refine blk_alloc ?_ _)); refine blk_put (cs := #[.int .i32 0, .bool false, .int .i64 x137002_2]) ?_ 2 _ rfl; (with_reducible repeat (first | refine blk_drewN ?_ _ | refine blk_drew ?_ | refine blk_alloc ?_ _)); refine blk_put (cs := #[.int .i32 0, .bool x137001_2, .int .i64 x137002_2]) ?_ 1 _ rfl; (with_reducible repeat (first | refine blk_drewN ?_ _ | refine blk_drew ?_ | refine blk_alloc ?_ _)); refine blk_put (cs := #[.int .i32 x137000_2, .bool x137001_2, .int .i64 x137002_2]) ?_ 0 _ rfl; (with_reducible repeat (first | refine blk_drewN ?_ _ | refine blk_drew ?_ | refine blk_alloc ?_ _)); exact BK136.out) Tryz.underlying55 rfl (by kernel_rfl)) rfl ?_
                                        exact ⟨by first | rfl | (simp [errW_none, errW_some] <;> rfl) | (simp [*, errW_none, errW_some] <;> rfl), by repeat (first | (with_reducible first | exact HB.out | apply below_alloc | apply pw_below_drewN | apply below_drew1 | refine below_set ?_ GE136.out) | exact HB.out)⟩
                                      · rw [if_neg c53] at H
                                        have c53b0 : decide (t149 ≤ 57343) = false := decide_eq_false c53
                                        clear c53
                                        simp only [Option.some.injEq, Prod.mk.injEq] at H
                                        obtain ⟨rfl, rfl, rfl⟩ := H
                                        go_wp2_with (first | ((with_reducible refine gate_callee (f := 43) rfl ?_); refine goesL_ (some 68) rfl rfl Tryz.func43 (by kernel_rfl) rfl #[.string (a0.extract 2 a0.size), .int .i64 4, .int .i64 16] rfl (by (try simp only [List.map_toArray, List.map_cons, List.map_nil]); first | done | rfl | (simp only [List.length_drop, List.length_take]; rfl)) ?_; (with_reducible refine (indentureref06_value.calls kj30 (a0.extract 2 a0.size) 4 16 t149 _ A47.out).mono ?_); rintro e w' ⟨rfl, ⟨nd, rfl⟩⟩; refine ⟨_, rfl, ?_⟩; (try (rw [drewN_self wc]; generalize hq_ : World.drewN wc _ = wc; have n0_ : Aside0 (wc.heap[gb136]? = some (.cells #[.int .i32 x137000_2, .bool x137001_2, .int .i64 x137002_2] 55 (0, 0))) := ⟨by rw [← hq_]; exact (by (with_reducible repeat (first | refine blk_drewN ?_ _ | refine blk_drew ?_ | refine blk_alloc ?_ _)); exact BK136.out)⟩; have n1_ : Aside0 (Below w.heap.size w wc) := ⟨by rw [← hq_]; exact (by repeat (first | (with_reducible first | exact HB.out | apply below_alloc | apply pw_below_drewN | apply below_drew1 | refine below_set ?_ GE136.out) | exact HB.out))⟩; clear BK136 HB hq_; have BK136 := n0_; have HB := n1_; clear n0_ n1_)); have hcz55_0 : wc.cell? ⟨gb136, 0, none⟩ = some (.int .i32 x137000_2) := (blk_cell BK136.out 0).trans rfl; have hcz55_1 : wc.cell? ⟨gb136, 1, none⟩ = some (.bool x137001_2) := (blk_cell BK136.out 1).trans rfl; have hcz55_2 : wc.cell? ⟨gb136, 2, none⟩ = some (.int .i64 x137002_2) := (blk_cell BK136.out 2).trans rfl; have hfz55_0 := blk_frozen BK136.out 0; have hfz55_1 := blk_frozen BK136.out 1; have hfz55_2 := blk_frozen BK136.out 2))
                                        refine bodyPost_ret (results_cell_row rfl _ _ gb136 55 #[.int .i32 (wrap32 (t149)), .bool false, .int .i64 (2 + 4)] (0, 0) _ rfl (by (with_reducible repeat (first | refine blk_drewN ?_ _ | refine blk_drew ?_ | refine blk_alloc ?_ _)); refine blk_put (cs := #[.int .i32 (wrap32 (t149)), .bool false, .int .i64 x137002_2]) ?_ 2 _ rfl; (with_reducible repeat (first | refine blk_drewN ?_ _ | refine blk_drew ?_ | refine blk_alloc ?_ _)); refine blk_put (cs := #[.int .i32 (wrap32 (t149)), .bool x137001_2, .int .i64 x137002_2]) ?_ 1 _ rfl; (with_reducible repeat (first | refine blk_drewN ?_ _ | refine blk_drew ?_ | refine blk_alloc ?_ _)); refine blk_put (cs := #[.int .i32 x137000_2, .bool x137001_2, .int .i64 x137002_2]) ?_ 0 _ rfl; (with_reducible repeat (first | refine blk_drewN ?_ _ | refine blk_drew ?_ | refine blk_alloc ?_ _)); exact BK136.out) Tryz.underlying55 rfl (by kernel_rfl)) rfl ?_
                                        exact ⟨by first | rfl | (simp [errW_none, errW_some] <;> rfl) | (simp [*, errW_none, errW_some] <;> rfl), by repeat (first | (with_reducible first | exact HB.out | apply below_alloc | apply pw_below_drewN | apply below_drew1 | refine below_set ?_ GE136.out) | exact HB.out)⟩
                                    · rw [if_neg c52] at H
                                      have c52b0 : decide (55296 ≤ t149) = false := decide_eq_false c52
                                      clear c52
                                      simp only [Option.some.injEq, Prod.mk.injEq] at H
                                      obtain ⟨rfl, rfl, rfl⟩ := H
                                      go_wp2_with (first | ((with_reducible refine gate_callee (f := 43) rfl ?_); refine goesL_ (some 68) rfl rfl Tryz.func43 (by kernel_rfl) rfl #[.string (a0.extract 2 a0.size), .int .i64 4, .int .i64 16] rfl (by (try simp only [List.map_toArray, List.map_cons, List.map_nil]); first | done | rfl | (simp only [List.length_drop, List.length_take]; rfl)) ?_; (with_reducible refine (indentureref06_value.calls kj30 (a0.extract 2 a0.size) 4 16 t149 _ A47.out).mono ?_); rintro e w' ⟨rfl, ⟨nd, rfl⟩⟩; refine ⟨_, rfl, ?_⟩; (try (rw [drewN_self wc]; generalize hq_ : World.drewN wc _ = wc; have n0_ : Aside0 (wc.heap[gb136]? = some (.cells #[.int .i32 x137000_2, .bool x137001_2, .int .i64 x137002_2] 55 (0, 0))) := ⟨by rw [← hq_]; exact (by (with_reducible repeat (first | refine blk_drewN ?_ _ | refine blk_drew ?_ | refine blk_alloc ?_ _)); exact BK136.out)⟩; have n1_ : Aside0 (Below w.heap.size w wc) := ⟨by rw [← hq_]; exact (by repeat (first | (with_reducible first | exact HB.out | apply below_alloc | apply pw_below_drewN | apply below_drew1 | refine below_set ?_ GE136.out) | exact HB.out))⟩; clear BK136 HB hq_; have BK136 := n0_; have HB := n1_; clear n0_ n1_)); have hcz56_0 : wc.cell? ⟨gb136, 0, none⟩ = some (.int .i32 x137000_2) := (blk_cell BK136.out 0).trans rfl; have hcz56_1 : wc.cell? ⟨gb136, 1, none⟩ = some (.bool x137001_2) := (blk_cell BK136.out 1).trans rfl; have hcz56_2 : wc.cell? ⟨gb136, 2, none⟩ = some (.int .i64 x137002_2) := (blk_cell BK136.out 2).trans rfl; have hfz56_0 := blk_frozen BK136.out 0; have hfz56_1 := blk_frozen BK136.out 1; have hfz56_2 := blk_frozen BK136.out 2))
                                      refine bodyPost_ret (results_cell_row rfl _ _ gb136 55 #[.int .i32 (wrap32 (t149)), .bool false, .int .i64 (2 + 4)] (0, 0) _ rfl (by (with_reducible repeat (first | refine blk_drewN ?_ _ | refine blk_drew ?_ | refine blk_alloc ?_ _)); refine blk_put (cs := #[.int .i32 (wrap32 (t149)), .bool false, .int .i64 x137002_2]) ?_ 2 _ rfl; (with_reducible repeat (first | refine blk_drewN ?_ _ | refine blk_drew ?_ | refine blk_alloc ?_ _)); refine blk_put (cs := #[.int .i32 (wrap32 (t149)), .bool x137001_2, .int .i64 x137002_2]) ?_ 1 _ rfl; (with_reducible repeat (first | refine blk_drewN ?_ _ | refine blk_drew ?_ | refine blk_alloc ?_ _)); refine blk_put (cs := #[.int .i32 x137000_2, .bool x137001_2, .int .i64 x137002_2]) ?_ 0 _ rfl; (with_reducible repeat (first | refine blk_drewN ?_ _ | refine blk_drew ?_ | refine blk_alloc ?_ _)); exact BK136.out) Tryz.underlying55 rfl (by kernel_rfl)) rfl ?_
                                      exact ⟨by first | rfl | (simp [errW_none, errW_some] <;> rfl) | (simp [*, errW_none, errW_some] <;> rfl), by repeat (first | (with_reducible first | exact HB.out | apply below_alloc | apply pw_below_drewN | apply below_drew1 | refine below_set ?_ GE136.out) | exact HB.out)⟩
                              · rw [if_neg c46] at H
                                exact absurd H (by simp)
                          · replace c33 := Bool.eq_false_iff.mpr c33
                            subst c33
                            have H1 : (if (bt a0 1) = 120 then (if 2 ≤ (a0.size : Int) then ((indentureref06_value.f kj30 (a0.extract 2 a0.size) 2 16).bind fun t150 => (if t150 < 0 then (some (0, false, 0)) else (some (wrap32 (t150), true, 4)))) else (none)) else (if 1 ≤ (a0.size : Int) then ((indentureref06_value.f kj30 (a0.extract 1 a0.size) 3 8).bind fun t151 => (if t151 < 0 then (some (0, false, 0)) else (if t151 > 255 then (some (0, false, 0)) else (some (wrap32 (t151), true, 4))))) else (none))) = some (r1, r2, r3) := by rw [if_neg (show ¬ (false = true) by decide)] at H; exact H
                            clear H
                            have H := H1
                            clear H1
                            by_cases c57 : (bt a0 1) = 120
                            · rw [if_pos c57] at H
                              have c57b0 : ((bt a0 1) == 120) = true := beq_iff_eq.mpr c57
                              have c57b1 : ((bt a0 1) != 120) = false := bne_eq_false_iff_eq.mpr c57
                              clear c57
                              by_cases c58 : 2 ≤ (a0.size : Int)
                              · rw [if_pos c58] at H
                                have c58b0 := eq_true c58
                                have c58b1 : decide (2 ≤ (a0.size : Int)) = true := decide_eq_true c58
                                clear c58
                                replace H := Option.bind_eq_some_iff.mp H
                                obtain ⟨t150, A590, H⟩ := H
                                replace H : (if t150 < 0 then (some (0, false, 0)) else (some (wrap32 (t150), true, 4))) = some (r1, r2, r3) := H
                                have A59 := Aside0.mk A590
                                clear A590
                                by_cases c60 : t150 < 0
                                · rw [if_pos c60] at H
                                  have c60b0 : decide (t150 < 0) = true := decide_eq_true c60
                                  clear c60
                                  simp only [Option.some.injEq, Prod.mk.injEq] at H
                                  obtain ⟨rfl, rfl, rfl⟩ := H
                                  go_wp2_with (first | ((with_reducible refine gate_callee (f := 43) rfl ?_); refine goesL_ (some 93) rfl rfl Tryz.func43 (by kernel_rfl) rfl #[.string (a0.extract 2 a0.size), .int .i64 2, .int .i64 16] rfl (by (try simp only [List.map_toArray, List.map_cons, List.map_nil]); first | done | rfl | (simp only [List.length_drop, List.length_take]; rfl)) ?_; (with_reducible refine (indentureref06_value.calls kj30 (a0.extract 2 a0.size) 2 16 t150 _ A59.out).mono ?_); rintro e w' ⟨rfl, ⟨nd, rfl⟩⟩; refine ⟨_, rfl, ?_⟩; (try (rw [drewN_self wc]; generalize hq_ : World.drewN wc _ = wc; have n0_ : Aside0 (wc.heap[gb136]? = some (.cells #[.int .i32 x137000_2, .bool x137001_2, .int .i64 x137002_2] 55 (0, 0))) := ⟨by rw [← hq_]; exact (by (with_reducible repeat (first | refine blk_drewN ?_ _ | refine blk_drew ?_ | refine blk_alloc ?_ _)); exact BK136.out)⟩; have n1_ : Aside0 (Below w.heap.size w wc) := ⟨by rw [← hq_]; exact (by repeat (first | (with_reducible first | exact HB.out | apply below_alloc | apply pw_below_drewN | apply below_drew1 | refine below_set ?_ GE136.out) | exact HB.out))⟩; clear BK136 HB hq_; have BK136 := n0_; have HB := n1_; clear n0_ n1_)); have hcz61_0 : wc.cell? ⟨gb136, 0, none⟩ = some (.int .i32 x137000_2) := (blk_cell BK136.out 0).trans rfl; have hcz61_1 : wc.cell? ⟨gb136, 1, none⟩ = some (.bool x137001_2) := (blk_cell BK136.out 1).trans rfl; have hcz61_2 : wc.cell? ⟨gb136, 2, none⟩ = some (.int .i64 x137002_2) := (blk_cell BK136.out 2).trans rfl; have hfz61_0 := blk_frozen BK136.out 0; have hfz61_1 := blk_frozen BK136.out 1; have hfz61_2 := blk_frozen BK136.out 2))
                                  refine bodyPost_ret (results_cell_row rfl _ _ gb136 55 #[.int .i32 0, .bool false, .int .i64 0] (0, 0) _ rfl (by (with_reducible repeat (first | refine blk_drewN ?_ _ | refine blk_drew ?_ | refine blk_alloc ?_ _)); refine blk_put (cs := #[.int .i32 0, .bool false, .int .i64 x137002_2]) ?_ 2 _ rfl; (with_reducible repeat (first | refine blk_drewN ?_ _ | refine blk_drew ?_ | refine blk_alloc ?_ _)); refine blk_put (cs := #[.int .i32 0, .bool x137001_2, .int .i64 x137002_2]) ?_ 1 _ rfl; (with_reducible repeat (first | refine blk_drewN ?_ _ | refine blk_drew ?_ | refine blk_alloc ?_ _)); refine blk_put (cs := #[.int .i32 x137000_2, .bool x137001_2, .int .i64 x137002_2]) ?_ 0 _ rfl; (with_reducible repeat (first | refine blk_drewN ?_ _ | refine blk_drew ?_ | refine blk_alloc ?_ _)); exact BK136.out) Tryz.underlying55 rfl (by kernel_rfl)) rfl ?_
                                  exact ⟨by first | rfl | (simp [errW_none, errW_some] <;> rfl) | (simp [*, errW_none, errW_some] <;> rfl), by repeat (first | (with_reducible first | exact HB.out | apply below_alloc | apply pw_below_drewN | apply below_drew1 | refine below_set ?_ GE136.out) | exact HB.out)⟩
                                · rw [if_neg c60] at H
                                  have c60b0 : decide (t150 < 0) = false := decide_eq_false c60
                                  clear c60
                                  simp only [Option.some.injEq, Prod.mk.injEq] at H
                                  obtain ⟨rfl, rfl, rfl⟩ := H
                                  go_wp2_with (first | ((with_reducible refine gate_callee (f := 43) rfl ?_); refine goesL_ (some 93) rfl rfl Tryz.func43 (by kernel_rfl) rfl #[.string (a0.extract 2 a0.size), .int .i64 2, .int .i64 16] rfl (by (try simp only [List.map_toArray, List.map_cons, List.map_nil]); first | done | rfl | (simp only [List.length_drop, List.length_take]; rfl)) ?_; (with_reducible refine (indentureref06_value.calls kj30 (a0.extract 2 a0.size) 2 16 t150 _ A59.out).mono ?_); rintro e w' ⟨rfl, ⟨nd, rfl⟩⟩; refine ⟨_, rfl, ?_⟩; (try (rw [drewN_self wc]; generalize hq_ : World.drewN wc _ = wc; have n0_ : Aside0 (wc.heap[gb136]? = some (.cells #[.int .i32 x137000_2, .bool x137001_2, .int .i64 x137002_2] 55 (0, 0))) := ⟨by rw [← hq_]; exact (by (with_reducible repeat (first | refine blk_drewN ?_ _ | refine blk_drew ?_ | refine blk_alloc ?_ _)); exact BK136.out)⟩; have n1_ : Aside0 (Below w.heap.size w wc) := ⟨by rw [← hq_]; exact (by repeat (first | (with_reducible first | exact HB.out | apply below_alloc | apply pw_below_drewN | apply below_drew1 | refine below_set ?_ GE136.out) | exact HB.out))⟩; clear BK136 HB hq_; have BK136 := n0_; have HB := n1_; clear n0_ n1_)); have hcz62_0 : wc.cell? ⟨gb136, 0, none⟩ = some (.int .i32 x137000_2) := (blk_cell BK136.out 0).trans rfl; have hcz62_1 : wc.cell? ⟨gb136, 1, none⟩ = some (.bool x137001_2) := (blk_cell BK136.out 1).trans rfl; have hcz62_2 : wc.cell? ⟨gb136, 2, none⟩ = some (.int .i64 x137002_2) := (blk_cell BK136.out 2).trans rfl; have hfz62_0 := blk_frozen BK136.out 0; have hfz62_1 := blk_frozen BK136.out 1; have hfz62_2 := blk_frozen BK136.out 2))
                                  refine bodyPost_ret (results_cell_row rfl _ _ gb136 55 #[.int .i32 (wrap32 (t150)), .bool true, .int .i64 4] (0, 0) _ rfl (by (with_reducible repeat (first | refine blk_drewN ?_ _ | refine blk_drew ?_ | refine blk_alloc ?_ _)); refine blk_put (cs := #[.int .i32 (wrap32 (t150)), .bool true, .int .i64 x137002_2]) ?_ 2 _ rfl; (with_reducible repeat (first | refine blk_drewN ?_ _ | refine blk_drew ?_ | refine blk_alloc ?_ _)); refine blk_put (cs := #[.int .i32 (wrap32 (t150)), .bool x137001_2, .int .i64 x137002_2]) ?_ 1 _ rfl; (with_reducible repeat (first | refine blk_drewN ?_ _ | refine blk_drew ?_ | refine blk_alloc ?_ _)); refine blk_put (cs := #[.int .i32 x137000_2, .bool x137001_2, .int .i64 x137002_2]) ?_ 0 _ rfl; (with_reducible repeat (first | refine blk_drewN ?_ _ | refine blk_drew ?_ | refine blk_alloc ?_ _)); exact BK136.out) Tryz.underlying55 rfl (by kernel_rfl)) rfl ?_
                                  exact ⟨by first | rfl | (simp [errW_none, errW_some] <;> rfl) | (simp [*, errW_none, errW_some] <;> rfl), by repeat (first | (with_reducible first | exact HB.out | apply below_alloc | apply pw_below_drewN | apply below_drew1 | refine below_set ?_ GE136.out) | exact HB.out)⟩
                              · rw [if_neg c58] at H
                                exact absurd H (by simp)
                            · rw [if_neg c57] at H
                              have c57b0 : ((bt a0 1) == 120) = false := beq_eq_false_iff_ne.mpr c57
                              have c57b1 : ((bt a0 1) != 120) = true := bne_iff_ne.mpr c57
                              by_cases c63 : 1 ≤ (a0.size : Int)
                              · rw [if_pos c63] at H
                                have c63b0 := eq_true c63
                                have c63b1 : decide (1 ≤ (a0.size : Int)) = true := decide_eq_true c63
                                clear c63
                                replace H := Option.bind_eq_some_iff.mp H
                                obtain ⟨t151, A640, H⟩ := H
                                replace H : (if t151 < 0 then (some (0, false, 0)) else (if t151 > 255 then (some (0, false, 0)) else (some (wrap32 (t151), true, 4)))) = some (r1, r2, r3) := H
                                have A64 := Aside0.mk A640
                                clear A640
                                by_cases c65 : t151 < 0
                                · rw [if_pos c65] at H
                                  have c65b0 : decide (t151 < 0) = true := decide_eq_true c65
                                  clear c65
                                  simp only [Option.some.injEq, Prod.mk.injEq] at H
                                  obtain ⟨rfl, rfl, rfl⟩ := H
                                  go_wp2_with (first | ((with_reducible refine gate_callee (f := 43) rfl ?_); refine goesL_ (some 102) rfl rfl Tryz.func43 (by kernel_rfl) rfl #[.string (a0.extract 1 a0.size), .int .i64 3, .int .i64 8] rfl (by (try simp only [List.map_toArray, List.map_cons, List.map_nil]); first | done | rfl | (simp only [List.length_drop, List.length_take]; rfl)) ?_; (with_reducible refine (indentureref06_value.calls kj30 (a0.extract 1 a0.size) 3 8 t151 _ A64.out).mono ?_); rintro e w' ⟨rfl, ⟨nd, rfl⟩⟩; refine ⟨_, rfl, ?_⟩; (try (rw [drewN_self wc]; generalize hq_ : World.drewN wc _ = wc; have n0_ : Aside0 (wc.heap[gb136]? = some (.cells #[.int .i32 x137000_2, .bool x137001_2, .int .i64 x137002_2] 55 (0, 0))) := ⟨by rw [← hq_]; exact (by (with_reducible repeat (first | refine blk_drewN ?_ _ | refine blk_drew ?_ | refine blk_alloc ?_ _)); exact BK136.out)⟩; have n1_ : Aside0 (Below w.heap.size w wc) := ⟨by rw [← hq_]; exact (by repeat (first | (with_reducible first | exact HB.out | apply below_alloc | apply pw_below_drewN | apply below_drew1 | refine below_set ?_ GE136.out) | exact HB.out))⟩; clear BK136 HB hq_; have BK136 := n0_; have HB := n1_; clear n0_ n1_)); have hcz66_0 : wc.cell? ⟨gb136, 0, none⟩ = some (.int .i32 x137000_2) := (blk_cell BK136.out 0).trans rfl; have hcz66_1 : wc.cell? ⟨gb136, 1, none⟩ = some (.bool x137001_2) := (blk_cell BK136.out 1).trans rfl; have hcz66_2 : wc.cell? ⟨gb136, 2, none⟩ = some (.int .i64 x137002_2) := (blk_cell BK136.out 2).trans rfl; have hfz66_0 := blk_frozen BK136.out 0; have hfz66_1 := blk_frozen BK136.out 1; have hfz66_2 := blk_frozen BK136.out 2))
                                  refine bodyPost_ret (results_cell_row rfl _ _ gb136 55 #[.int .i32 0, .bool false, .int .i64 0] (0, 0) _ rfl (by (with_reducible repeat (first | refine blk_drewN ?_ _ | refine blk_drew ?_ | refine blk_alloc ?_ _)); refine blk_put (cs := #[.int .i32 0, .bool false, .int .i64 x137002_2]) ?_ 2 _ rfl; (with_reducible repeat (first | refine blk_drewN ?_ _ | refine blk_drew ?_ | refine blk_alloc ?_ _)); refine blk_put (cs := #[.int .i32 0, .bool x137001_2, .int .i64 x137002_2]) ?_ 1 _ rfl; (with_reducible repeat (first | refine blk_drewN ?_ _ | refine blk_drew ?_ | refine blk_alloc ?_ _)); refine blk_put (cs := #[.int .i32 x137000_2, .bool x137001_2, .int .i64 x137002_2]) ?_ 0 _ rfl; (with_reducible repeat (first | refine blk_drewN ?_ _ | refine blk_drew ?_ | refine blk_alloc ?_ _)); exact BK136.out) Tryz.underlying55 rfl (by kernel_rfl)) rfl ?_
                                  exact ⟨by first | rfl | (simp [errW_none, errW_some] <;> rfl) | (simp [*, errW_none, errW_some] <;> rfl), by repeat (first | (with_reducible first | exact HB.out | apply below_alloc | apply pw_below_drewN | apply below_drew1 | refine below_set ?_ GE136.out) | exact HB.out)⟩
                                · rw [if_neg c65] at H
                                  have c65b0 : decide (t151 < 0) = false := decide_eq_false c65
                                  clear c65
                                  by_cases c67 : t151 > 255
                                  · rw [if_pos c67] at H
                                    have c67b0 : decide (255 < t151) = true := decide_eq_true c67
                                    clear c67
                                    simp only [Option.some.injEq, Prod.mk.injEq] at H
                                    obtain ⟨rfl, rfl, rfl⟩ := H
                                    go_wp2_with (first | ((with_reducible refine gate_callee (f := 43) rfl ?_); refine goesL_ (some 102) rfl rfl Tryz.func43 (by kernel_rfl) rfl #[.string (a0.extract 1 a0.size), .int .i64 3, .int .i64 8] rfl (by (try simp only [List.map_toArray, List.map_cons, List.map_nil]); first | done | rfl | (simp only [List.length_drop, List.length_take]; rfl)) ?_; (with_reducible refine (indentureref06_value.calls kj30 (a0.extract 1 a0.size) 3 8 t151 _ A64.out).mono ?_); rintro e w' ⟨rfl, ⟨nd, rfl⟩⟩; refine ⟨_, rfl, ?_⟩; (try (rw [drewN_self wc]; generalize hq_ : World.drewN wc _ = wc; have n0_ : Aside0 (wc.heap[gb136]? = some (.cells #[.int .i32 x137000_2, .bool x137001_2, .int .i64 x137002_2] 55 (0, 0))) := ⟨by rw [← hq_]; exact (by (with_reducible repeat (first | refine blk_drewN ?_ _ | refine blk_drew ?_ | refine blk_alloc ?_ _)); exact BK136.out)⟩; have n1_ : Aside0 (Below w.heap.size w wc) := ⟨by rw [← hq_]; exact (by repeat (first | (with_reducible first | exact HB.out | apply below_alloc | apply pw_below_drewN | apply below_drew1 | refine below_set ?_ GE136.out) | exact HB.out))⟩; clear BK136 HB hq_; have BK136 := n0_; have HB := n1_; clear n0_ n1_)); have hcz68_0 : wc.cell? ⟨gb136, 0, none⟩ = some (.int .i32 x137000_2) := (blk_cell BK136.out 0).trans rfl; have hcz68_1 : wc.cell? ⟨gb136, 1, none⟩ = some (.bool x137001_2) := (blk_cell BK136.out 1).trans rfl; have hcz68_2 : wc.cell? ⟨gb136, 2, none⟩ = some (.int .i64 x137002_2) := (blk_cell BK136.out 2).trans rfl; have hfz68_0 := blk_frozen BK136.out 0; have hfz68_1 := blk_frozen BK136.out 1; have hfz68_2 := blk_frozen BK136.out 2))
                                    refine bodyPost_ret (results_cell_row rfl _ _ gb136 55 #[.int .i32 0, .bool false, .int .i64 0] (0, 0) _ rfl (by (with_reducible repeat (first | refine blk_drewN ?_ _ | refine blk_drew ?_ | refine blk_alloc ?_ _)); refine blk_put (cs := #[.int .i32 0, .bool false, .int .i64 x137002_2]) ?_ 2 _ rfl; (with_reducible repeat (first | refine blk_drewN ?_ _ | refine blk_drew ?_ | refine blk_alloc ?_ _)); refine blk_put (cs := #[.int .i32 0, .bool x137001_2, .int .i64 x137002_2]) ?_ 1 _ rfl; (with_reducible repeat (first | refine blk_drewN ?_ _ | refine blk_drew ?_ | refine blk_alloc ?_ _)); refine blk_put (cs := #[.int .i32 x137000_2, .bool x137001_2, .int .i64 x137002_2]) ?_ 0 _ rfl; (with_reducible repeat (first | refine blk_drewN ?_ _ | refine blk_drew ?_ | refine blk_alloc ?_ _)); exact BK136.out) Tryz.underlying55 rfl (by kernel_rfl)) rfl ?_
                                    exact ⟨by first | rfl | (simp [errW_none, errW_some] <;> rfl) | (simp [*, errW_none, errW_some] <;> rfl), by repeat (first | (with_reducible first | exact HB.out | apply below_alloc | apply pw_below_drewN | apply below_drew1 | refine below_set ?_ GE136.out) | exact HB.out)⟩
                                  · rw [if_neg c67] at H
                                    have c67b0 : decide (255 < t151) = false := decide_eq_false c67
                                    clear c67
                                    simp only [Option.some.injEq, Prod.mk.injEq] at H
                                    obtain ⟨rfl, rfl, rfl⟩ := H
                                    go_wp2_with (first | ((with_reducible refine gate_callee (f := 43) rfl ?_); refine goesL_ (some 102) rfl rfl Tryz.func43 (by kernel_rfl) rfl #[.string (a0.extract 1 a0.size), .int .i64 3, .int .i64 8] rfl (by (try simp only [List.map_toArray, List.map_cons, List.map_nil]); first | done | rfl | (simp only [List.length_drop, List.length_take]; rfl)) ?_; (with_reducible refine (indentureref06_value.calls kj30 (a0.extract 1 a0.size) 3 8 t151 _ A64.out).mono ?_); rintro e w' ⟨rfl, ⟨nd, rfl⟩⟩; refine ⟨_, rfl, ?_⟩; (try (rw [drewN_self wc]; generalize hq_ : World.drewN wc _ = wc; have n0_ : Aside0 (wc.heap[gb136]? = some (.cells #[.int .i32 x137000_2, .bool x137001_2, .int .i64 x137002_2] 55 (0, 0))) := ⟨by rw [← hq_]; exact (by (with_reducible repeat (first | refine blk_drewN ?_ _ | refine blk_drew ?_ | refine blk_alloc ?_ _)); exact BK136.out)⟩; have n1_ : Aside0 (Below w.heap.size w wc) := ⟨by rw [← hq_]; exact (by repeat (first | (with_reducible first | exact HB.out | apply below_alloc | apply pw_below_drewN | apply below_drew1 | refine below_set ?_ GE136.out) | exact HB.out))⟩; clear BK136 HB hq_; have BK136 := n0_; have HB := n1_; clear n0_ n1_)); have hcz69_0 : wc.cell? ⟨gb136, 0, none⟩ = some (.int .i32 x137000_2) := (blk_cell BK136.out 0).trans rfl; have hcz69_1 : wc.cell? ⟨gb136, 1, none⟩ = some (.bool x137001_2) := (blk_cell BK136.out 1).trans rfl; have hcz69_2 : wc.cell? ⟨gb136, 2, none⟩ = some (.int .i64 x137002_2) := (blk_cell BK136.out 2).trans rfl; have hfz69_0 := blk_frozen BK136.out 0; have hfz69_1 := blk_frozen BK136.out 1; have hfz69_2 := blk_frozen BK136.out 2))
                                    refine bodyPost_ret (results_cell_row rfl _ _ gb136 55 #[.int .i32 (wrap32 (t151)), .bool true, .int .i64 4] (0, 0) _ rfl (by (with_reducible repeat (first | refine blk_drewN ?_ _ | refine blk_drew ?_ | refine blk_alloc ?_ _)); refine blk_put (cs := #[.int .i32 (wrap32 (t151)), .bool true, .int .i64 x137002_2]) ?_ 2 _ rfl; (with_reducible repeat (first | refine blk_drewN ?_ _ | refine blk_drew ?_ | refine blk_alloc ?_ _)); refine blk_put (cs := #[.int .i32 (wrap32 (t151)), .bool x137001_2, .int .i64 x137002_2]) ?_ 1 _ rfl; (with_reducible repeat (first | refine blk_drewN ?_ _ | refine blk_drew ?_ | refine blk_alloc ?_ _)); refine blk_put (cs := #[.int .i32 x137000_2, .bool x137001_2, .int .i64 x137002_2]) ?_ 0 _ rfl; (with_reducible repeat (first | refine blk_drewN ?_ _ | refine blk_drew ?_ | refine blk_alloc ?_ _)); exact BK136.out) Tryz.underlying55 rfl (by kernel_rfl)) rfl ?_
                                    exact ⟨by first | rfl | (simp [errW_none, errW_some] <;> rfl) | (simp [*, errW_none, errW_some] <;> rfl), by repeat (first | (with_reducible first | exact HB.out | apply below_alloc | apply pw_below_drewN | apply below_drew1 | refine below_set ?_ GE136.out) | exact HB.out)⟩
                              · rw [if_neg c63] at H
                                exact absurd H (by simp)
              · rw [if_neg c17] at H
                exact absurd H (by simp)
          · rw [if_neg c14] at H
            have c14b0 : ((bt a0 0) == 92) = false := beq_eq_false_iff_ne.mpr c14
            have c14b1 : ((bt a0 0) != 92) = true := bne_iff_ne.mpr c14
            replace H := Option.bind_eq_some_iff.mp H
            obtain ⟨⟨t137, t138, t139⟩, A700, H⟩ := H
            replace H : (some (t137, t138, t139)) = some (r1, r2, r3) := H
            have A70 := Aside0.mk A700
            clear A700
            simp only [Option.some.injEq, Prod.mk.injEq] at H
            obtain ⟨rfl, rfl, rfl⟩ := H
            have p13 : 0 ≤ (0 : Int) := (by omega)
            have q13 : 0 < a0.size := (by have : (0 : Int) < (a0.size : Int) := of_decide_eq_true (by first | (with_reducible assumption) | assumption); omega)
            have hx13 : ∀ h : 0 < a0.size, ((a0[0]'h).toNat : Int) = bt a0 0 := bt_at a0 0
            clear p13
            have qi13 : (0 < (a0.size : Int)) = True := eq_true (of_decide_eq_true (by first | (with_reducible assumption) | assumption))
            replace q13 := eq_true q13
            go_wp2_with (first | ((with_reducible refine gate_callee (f := 42) rfl ?_); refine goesL_ (some 31) rfl rfl Tryz.func42 (by kernel_rfl) rfl #[.string a0] rfl (by (try simp only [List.map_toArray, List.map_cons, List.map_nil]); first | done | rfl | (simp only [List.length_drop, List.length_take]; rfl)) ?_; (with_reducible refine (indentureref06_letter.calls kj2 a0 t137 t138 t139 _ A70.out).mono ?_); rintro e w71 ⟨rfl, hb⟩; refine ⟨_, rfl, ?_⟩; have n0_ := Aside0.mk (blk_below (g := gb136) (o := .cells #[.int .i32 0, .bool false, .int .i64 0] 55 (0, 0)) (by (with_reducible repeat (first | refine blk_drewN ?_ _ | refine blk_drew ?_ | refine blk_alloc ?_ _)); exact BK136.out) hb); have n1_ := Aside0.mk (below_step (by repeat (first | (with_reducible first | exact HB.out | apply below_alloc | apply pw_below_drewN | apply below_drew1 | refine below_set ?_ GE136.out) | exact HB.out)) hb); clear BK136; clear HB; have BK136 := n0_; have HB := n1_; clear n0_ n1_; (try clear hb); (try clear hb2); (try clear hk); (try clear hi); have hcz72_0 : w71.cell? ⟨gb136, 0, none⟩ = some (.int .i32 0) := (blk_cell BK136.out 0).trans rfl; have hcz72_1 : w71.cell? ⟨gb136, 1, none⟩ = some (.bool false) := (blk_cell BK136.out 1).trans rfl; have hcz72_2 : w71.cell? ⟨gb136, 2, none⟩ = some (.int .i64 0) := (blk_cell BK136.out 2).trans rfl; have hfz72_0 := blk_frozen BK136.out 0; have hfz72_1 := blk_frozen BK136.out 1; have hfz72_2 := blk_frozen BK136.out 2))
            refine bodyPost_ret (results_cell_row rfl _ _ gb136 55 #[.int .i32 t137, .bool t138, .int .i64 t139] (0, 0) _ rfl (by (with_reducible repeat (first | refine blk_drewN ?_ _ | refine blk_drew ?_ | refine blk_alloc ?_ _)); refine blk_put (cs := #[.int .i32 t137, .bool t138, .int .i64 0]) ?_ 2 _ rfl; (with_reducible repeat (first | refine blk_drewN ?_ _ | refine blk_drew ?_ | refine blk_alloc ?_ _)); refine blk_put (cs := #[.int .i32 t137, .bool false, .int .i64 0]) ?_ 1 _ rfl; (with_reducible repeat (first | refine blk_drewN ?_ _ | refine blk_drew ?_ | refine blk_alloc ?_ _)); refine blk_put (cs := #[.int .i32 0, .bool false, .int .i64 0]) ?_ 0 _ rfl; (with_reducible repeat (first | refine blk_drewN ?_ _ | refine blk_drew ?_ | refine blk_alloc ?_ _)); exact BK136.out) Tryz.underlying55 rfl (by kernel_rfl)) rfl ?_
            exact ⟨by first | rfl | (simp [errW_none, errW_some] <;> rfl) | (simp [*, errW_none, errW_some] <;> rfl), by repeat (first | (with_reducible first | exact HB.out | apply below_alloc | apply pw_below_drewN | apply below_drew1 | refine below_set ?_ GE136.out) | exact HB.out)⟩
        · rw [if_neg c12] at H
          exact absurd H (by simp)

end Go.Proofs.YtgfdfmgocijdgaaGreatDoor.PLitTexts
