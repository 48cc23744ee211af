/- The reference's letter, walked by hand. -/
import Derived.Test.YtgfdfmgocijdgaaGreatDoorPRx3
import Derived.Test.YtgfdfmgocijdgaaGreatDoorWkE
import Derived.RegionTactic
namespace Go.Proofs.YtgfdfmgocijdgaaGreatDoor
open Go.RowKit Go.Lib Go.Shelf Go.Proofs.YtgfdfmgocijdgaaGreatDoorW.PrintWords Go.Proofs.YtgfdfmgocijdgaaGreatDoorW.PrintLast Go.Proofs.YtgfdfmgocijdgaaGreatDoorW.PrintMore PLitTexts
/-- A letter's number behind its first i bytes. -/
def lvI (l : List UInt8) (off : Int) : Nat → Int
  | 0 => 0
  | 1 => (bN l 0 : Int) - off
  | i + 2 => 64 * lvI l off (i + 1) + (bN l (i + 1) : Int) - 128
theorem lvI_step (l : List UInt8) (off : Int) (i : Nat) (h : 1 ≤ i) : lvI l off (i + 1) = 64 * lvI l off i + (bN l i : Int) - 128 := by
  obtain ⟨j, rfl⟩ : ∃ j, i = j + 1 := ⟨i - 1, by omega⟩
  rfl
theorem bN_lt (l : List UInt8) (i : Nat) : bN l i < 256 := (l.getD i 0).toNat_lt
theorem lvI_bd (l : List UInt8) (off : Int) (h0 : 0 ≤ off) (h1 : off ≤ 256) (i : Nat) (hi : i ≤ 3) : -1100000 ≤ lvI l off i ∧ lvI l off i ≤ 1100000 := by
  have a0 := bN_lt l 0
  have a1 := bN_lt l (0 + 1)
  have a2 := bN_lt l (1 + 1)
  obtain rfl | rfl | rfl | rfl : i = 0 ∨ i = 1 ∨ i = 2 ∨ i = 3 := by omega
  all_goals simp only [lvI]
  all_goals omega
def LetPost (r : Int) (n : Int) (W : World) (e : Ending) (w' : World) : Prop := e = .returned (.agg #[.int .i32 r, .bool false, .int .i64 n]) ∧ Below W.heap.size W w'
set_option maxRecDepth 1000000 in
set_option maxHeartbeats 4000000 in
theorem letter_2 (s : ByteArray) (w : World) (hS : ∀ W, Calls Tryz.prog 31 #[.string s, .int .i64 0] W fun e w' => e = .returned (.int .i64 2) ∧ Drawn0 W w') (h3 : 2 ≤ s.size) : Calls Tryz.prog 42 #[.string s] w (LetPost (lvI s.data.toList 192 2) 2 w) := by
  have hx0 := byte_at s 0
  have f1 : 0 < s.size := by omega
  have hz : lvI s.data.toList 192 1 = (bN s.data.toList 0 : Int) - 192 := rfl
  have hb0 : bN s.data.toList 0 < 256 := (s.data.toList.getD 0 0).toNat_lt
  generalize bN s.data.toList 0 = B0 at *
  have b1 : 0 ≤ (B0 : Int) := by omega
  have b2 : (B0 : Int) < 256 := by omega
  have hz' := Lib.hid hz
  clear hz
  go_enter Tryz.func42, Tryz.ntmps42
  go_wp2_with (first | (go_at_call 31; (with_reducible refine (hS _).mono ?_); rintro e w1 ⟨rfl, nd, rfl⟩))
  go_region
  all_goals
    go_wp2
    go_loop [4, 5] (fun v4 v5 => ∃ i : Nat, 1 ≤ i ∧ i ≤ 2 ∧ v5 = .int .i64 i ∧ v4 = .int .i32 (lvI s.data.toList 192 i)) (fun _ v5 => 2 - (intOf v5).toNat)
    case atStart => exact ⟨1, by omega, by omega, rfl, by rw [hz'.out]⟩
    case round =>
      clear hz'
      obtain ⟨i, hi1, hi2, rfl, rfl⟩ := hrel
      by_cases hlt : i < 2
      · have hxi := byte_at s i
        have hsx := Lib.hid (lvI_step s.data.toList 192 i hi1)
        have hbd := lvI_bd s.data.toList 192 (by omega) (by omega) i (by omega)
        have hbi : bN s.data.toList i < 256 := (s.data.toList.getD i 0).toNat_lt
        generalize lvI s.data.toList 192 i = x at *
        generalize bN s.data.toList i = bi at *
        have c1 : 0 ≤ (bi : Int) := by omega
        have c2 : (bi : Int) < 256 := by omega
        have c3 : i < s.size := by omega
        obtain ⟨hbd1, hbd2⟩ := hbd
        go_wp2
        go_round
        case rel => exact ⟨i + 1, by omega, by omega, by go_num, by rw [hsx.out]⟩
        case measure => simp [intOf]; omega
      · have hin : i = 2 := by omega
        subst hin
        go_wp2
        refine bodyPost_ret (v := .agg #[.int .i32 (lvI s.data.toList 192 2), .bool false, .int .i64 2]) (by simp [results, Tryz.results42, go_sem]) rfl ⟨rfl, ?_⟩
        exact (below_set (below_set (below_set (pw_below_drewN ((Below.refl _ _).alloc (Nat.le_refl _) _) _) (Nat.le_refl _)) (Nat.le_refl _)) (Nat.le_refl _)).alloc (by simp) _
set_option maxRecDepth 1000000 in
set_option maxHeartbeats 4000000 in
theorem letter_3 (s : ByteArray) (w : World) (hS : ∀ W, Calls Tryz.prog 31 #[.string s, .int .i64 0] W fun e w' => e = .returned (.int .i64 3) ∧ Drawn0 W w') (h3 : 3 ≤ s.size) : Calls Tryz.prog 42 #[.string s] w (LetPost (lvI s.data.toList 224 3) 3 w) := by
  have hx0 := byte_at s 0
  have f1 : 0 < s.size := by omega
  have hz : lvI s.data.toList 224 1 = (bN s.data.toList 0 : Int) - 224 := rfl
  have hb0 : bN s.data.toList 0 < 256 := (s.data.toList.getD 0 0).toNat_lt
  generalize bN s.data.toList 0 = B0 at *
  have b1 : 0 ≤ (B0 : Int) := by omega
  have b2 : (B0 : Int) < 256 := by omega
  have hz' := Lib.hid hz
  clear hz
  go_enter Tryz.func42, Tryz.ntmps42
  go_wp2_with (first | (go_at_call 31; (with_reducible refine (hS _).mono ?_); rintro e w1 ⟨rfl, nd, rfl⟩))
  go_region
  all_goals
    go_wp2
    go_loop [4, 5] (fun v4 v5 => ∃ i : Nat, 1 ≤ i ∧ i ≤ 3 ∧ v5 = .int .i64 i ∧ v4 = .int .i32 (lvI s.data.toList 224 i)) (fun _ v5 => 3 - (intOf v5).toNat)
    case atStart => exact ⟨1, by omega, by omega, rfl, by rw [hz'.out]⟩
    case round =>
      clear hz'
      obtain ⟨i, hi1, hi2, rfl, rfl⟩ := hrel
      by_cases hlt : i < 3
      · have hxi := byte_at s i
        have hsx := Lib.hid (lvI_step s.data.toList 224 i hi1)
        have hbd := lvI_bd s.data.toList 224 (by omega) (by omega) i (by omega)
        have hbi : bN s.data.toList i < 256 := (s.data.toList.getD i 0).toNat_lt
        generalize lvI s.data.toList 224 i = x at *
        generalize bN s.data.toList i = bi at *
        have c1 : 0 ≤ (bi : Int) := by omega
        have c2 : (bi : Int) < 256 := by omega
        have c3 : i < s.size := by omega
        obtain ⟨hbd1, hbd2⟩ := hbd
        go_wp2
        go_round
        case rel => exact ⟨i + 1, by omega, by omega, by go_num, by rw [hsx.out]⟩
        case measure => simp [intOf]; omega
      · have hin : i = 3 := by omega
        subst hin
        go_wp2
        refine bodyPost_ret (v := .agg #[.int .i32 (lvI s.data.toList 224 3), .bool false, .int .i64 3]) (by simp [results, Tryz.results42, go_sem]) rfl ⟨rfl, ?_⟩
        exact (below_set (below_set (below_set (pw_below_drewN ((Below.refl _ _).alloc (Nat.le_refl _) _) _) (Nat.le_refl _)) (Nat.le_refl _)) (Nat.le_refl _)).alloc (by simp) _
set_option maxRecDepth 1000000 in
set_option maxHeartbeats 4000000 in
theorem letter_4 (s : ByteArray) (w : World) (hS : ∀ W, Calls Tryz.prog 31 #[.string s, .int .i64 0] W fun e w' => e = .returned (.int .i64 4) ∧ Drawn0 W w') (h3 : 4 ≤ s.size) : Calls Tryz.prog 42 #[.string s] w (LetPost (lvI s.data.toList 240 4) 4 w) := by
  have hx0 := byte_at s 0
  have f1 : 0 < s.size := by omega
  have hz : lvI s.data.toList 240 1 = (bN s.data.toList 0 : Int) - 240 := rfl
  have hb0 : bN s.data.toList 0 < 256 := (s.data.toList.getD 0 0).toNat_lt
  generalize bN s.data.toList 0 = B0 at *
  have b1 : 0 ≤ (B0 : Int) := by omega
  have b2 : (B0 : Int) < 256 := by omega
  have hz' := Lib.hid hz
  clear hz
  go_enter Tryz.func42, Tryz.ntmps42
  go_wp2_with (first | (go_at_call 31; (with_reducible refine (hS _).mono ?_); rintro e w1 ⟨rfl, nd, rfl⟩))
  go_region
  all_goals
    go_wp2
    go_loop [4, 5] (fun v4 v5 => ∃ i : Nat, 1 ≤ i ∧ i ≤ 4 ∧ v5 = .int .i64 i ∧ v4 = .int .i32 (lvI s.data.toList 240 i)) (fun _ v5 => 4 - (intOf v5).toNat)
    case atStart => exact ⟨1, by omega, by omega, rfl, by rw [hz'.out]⟩
    case round =>
      clear hz'
      obtain ⟨i, hi1, hi2, rfl, rfl⟩ := hrel
      by_cases hlt : i < 4
      · have hxi := byte_at s i
        have hsx := Lib.hid (lvI_step s.data.toList 240 i hi1)
        have hbd := lvI_bd s.data.toList 240 (by omega) (by omega) i (by omega)
        have hbi : bN s.data.toList i < 256 := (s.data.toList.getD i 0).toNat_lt
        generalize lvI s.data.toList 240 i = x at *
        generalize bN s.data.toList i = bi at *
        have c1 : 0 ≤ (bi : Int) := by omega
        have c2 : (bi : Int) < 256 := by omega
        have c3 : i < s.size := by omega
        obtain ⟨hbd1, hbd2⟩ := hbd
        go_wp2
        go_round
        case rel => exact ⟨i + 1, by omega, by omega, by go_num, by rw [hsx.out]⟩
        case measure => simp [intOf]; omega
      · have hin : i = 4 := by omega
        subst hin
        go_wp2
        refine bodyPost_ret (v := .agg #[.int .i32 (lvI s.data.toList 240 4), .bool false, .int .i64 4]) (by simp [results, Tryz.results42, go_sem]) rfl ⟨rfl, ?_⟩
        exact (below_set (below_set (below_set (pw_below_drewN ((Below.refl _ _).alloc (Nat.le_refl _) _) _) (Nat.le_refl _)) (Nat.le_refl _)) (Nat.le_refl _)).alloc (by simp) _
set_option maxRecDepth 1000000 in
set_option maxHeartbeats 4000000 in
theorem letter_low (s : ByteArray) (w : World) (n : Int) (hS : ∀ W, Calls Tryz.prog 31 #[.string s, .int .i64 0] W fun e w' => e = .returned (.int .i64 n) ∧ Drawn0 W w') (hn : ¬ 1 < n) (h3 : 0 < s.size) : Calls Tryz.prog 42 #[.string s] w (LetPost (bN s.data.toList 0) n w) := by
  have hx0 := byte_at s 0
  have hb0 := bN_lt s.data.toList 0
  generalize bN s.data.toList 0 = B0 at *
  have b1 : 0 ≤ (B0 : Int) := by omega
  have b2 : (B0 : Int) < 256 := by omega
  have f2 : decide (1 < n) = false := decide_eq_false hn
  go_enter Tryz.func42, Tryz.ntmps42
  go_wp2_with (first | (go_at_call 31; (with_reducible refine (hS _).mono ?_); rintro e w1 ⟨rfl, nd, rfl⟩))
  go_loop [4, 5] (fun v4 v5 => v5 = .int .i64 1 ∧ v4 = .int .i32 B0) (fun _ _ => 0)
  case atStart => exact ⟨rfl, rfl⟩
  case round =>
    obtain ⟨rfl, rfl⟩ := hrel
    go_wp2
    refine bodyPost_ret (v := .agg #[.int .i32 B0, .bool false, .int .i64 n]) (by simp [results, Tryz.results42, go_sem]) rfl ⟨rfl, ?_⟩
    exact below_set (below_set (below_set (pw_below_drewN ((Below.refl _ _).alloc (Nat.le_refl _) _) _) (Nat.le_refl _)) (Nat.le_refl _)) (Nat.le_refl _)
theorem bt_bN (s : ByteArray) (i : Nat) (h : i < s.size) : bt s (i : Int) = (bN s.data.toList i : Int) := by
  rw [← byte_at s i h]
  have := bt_at s (i : Int) (by simpa using h)
  rw [← this]
  rfl
theorem w32 (n : Int) (h0 : -2147483648 ≤ n) (h1 : n ≤ 2147483647) : wrap32 n = n := by unfold wrap32; omega
theorem w64 (n : Int) (h0 : -9223372036854775808 ≤ n) (h1 : n ≤ 9223372036854775807) : wrap64 n = n := by unfold wrap64; omega
/-- One more byte of the letter. -/
theorem l0_step (k : Nat) (s : ByteArray) (n : Int) (off : Int) (ho0 : 0 ≤ off) (ho1 : off ≤ 256) (i : Nat) (hi1 : 1 ≤ i) (hi : i ≤ 3) (hn : (i : Int) < n) (r : Int × Bool × Int) (h : indentureref06_letter.l0 (k + 1) s n (lvI s.data.toList off i) (i : Int) = some r) :
    i < s.size ∧ indentureref06_letter.l0 k s n (lvI s.data.toList off (i + 1)) ((i + 1 : Nat) : Int) = some r := by
  simp only [indentureref06_letter.l0] at h
  rw [if_pos hn, if_pos (by omega)] at h
  by_cases hs : (i : Int) < (s.size : Int)
  · rw [if_pos hs] at h
    have hs' : i < s.size := by omega
    have hb := bN_lt s.data.toList i
    have hbd := lvI_bd s.data.toList off ho0 ho1 i hi
    rw [bt_bN s i hs', w32 (64 * lvI s.data.toList off i) (by omega) (by omega), w32 (bN s.data.toList i : Int) (by omega) (by omega), w32 (64 * lvI s.data.toList off i + (bN s.data.toList i : Int)) (by omega) (by omega), w32 (64 * lvI s.data.toList off i + (bN s.data.toList i : Int) - 128) (by omega) (by omega), w64 _ (by omega) (by omega), ← lvI_step s.data.toList off i hi1] at h
    exact ⟨hs', h⟩
  · rw [if_neg hs] at h; cases h
theorem l0_end (k : Nat) (s : ByteArray) (n x i : Int) (hn : ¬ i < n) (r : Int × Bool × Int) (h : indentureref06_letter.l0 k s n x i = some r) : r = (x, false, n) := by
  cases k with
  | zero => simp [indentureref06_letter.l0] at h
  | succ k =>
    simp only [indentureref06_letter.l0] at h
    rw [if_neg hn] at h
    exact (Option.some.inj h).symm
theorem j0_l0 {k : Nat} {s : ByteArray} {n x : Int} {r : Int × Bool × Int} (h : indentureref06_letter.j0 k s n x = some r) : ∃ k', indentureref06_letter.l0 k' s n x 1 = some r := by
  cases k with
  | zero => simp [indentureref06_letter.j0] at h
  | succ k => exact ⟨k, by simpa only [indentureref06_letter.j0] using h⟩
theorem l0_pos {k : Nat} {s : ByteArray} {n x i : Int} {r : Int × Bool × Int} (h : indentureref06_letter.l0 k s n x i = some r) : ∃ k', k = k' + 1 := by
  cases k with
  | zero => simp [indentureref06_letter.l0] at h
  | succ k => exact ⟨k, rfl⟩
namespace PLitTexts
theorem indentureref06_letter.calls (k : Nat) (a0 : ByteArray) (r1 : Int) (r2 : Bool) (r3 : Int) (w : World) (h : indentureref06_letter.f k a0 = some (r1, r2, r3)) :
    Calls Tryz.prog 42 #[.string a0] w fun e w' => e = .returned (.agg #[.int .i32 r1, .bool r2, .int .i64 r3]) ∧ Below w.heap.size w w' := by
  unfold indentureref06_letter.f at h
  obtain ⟨n, hn, h⟩ := Option.bind_eq_some_iff.1 h
  have hS := fun W => indentureref04_Size.calls k a0 0 n W hn
  by_cases hp : 0 < (a0.size : Int)
  · rw [if_pos hp] at h
    have hp' : 0 < a0.size := by omega
    have hb0 := bN_lt a0.data.toList 0
    have e0 : bt a0 0 = (bN a0.data.toList 0 : Int) := bt_bN a0 0 hp'
    rw [e0, w32 (bN a0.data.toList 0 : Int) (by omega) (by omega)] at h
    by_cases h1 : n > 1
    · rw [if_pos h1] at h
      simp only [Option.bind_some] at h
      rw [if_pos (by omega)] at h
      by_cases h5 : n < (([0, 0, 192, 224, 240] : List Int).length : Int)
      · rw [if_pos h5] at h
        simp at h5
        obtain rfl | rfl | rfl : n = 2 ∨ n = 3 ∨ n = 4 := by omega
        · have er : rd [0, 0, 192, 224, 240] 2 = 192 := rfl
          rw [er, w32 _ (by omega) (by omega)] at h
          obtain ⟨k', h⟩ := j0_l0 h
          obtain ⟨k', rfl⟩ := l0_pos h
          obtain ⟨s1, h⟩ := l0_step k' a0 2 192 (by omega) (by omega) 1 (by omega) (by omega) (by omega) _ h
          have := l0_end _ _ _ _ _ (by omega) _ h
          cases this
          exact letter_2 a0 w hS (by omega)
        · have er : rd [0, 0, 192, 224, 240] 3 = 224 := rfl
          rw [er, w32 _ (by omega) (by omega)] at h
          obtain ⟨k', h⟩ := j0_l0 h
          obtain ⟨k', rfl⟩ := l0_pos h
          obtain ⟨s1, h⟩ := l0_step k' a0 3 224 (by omega) (by omega) 1 (by omega) (by omega) (by omega) _ h
          obtain ⟨k', rfl⟩ := l0_pos h
          obtain ⟨s2, h⟩ := l0_step k' a0 3 224 (by omega) (by omega) 2 (by omega) (by omega) (by omega) _ h
          have := l0_end _ _ _ _ _ (by omega) _ h
          cases this
          exact letter_3 a0 w hS (by omega)
        · have er : rd [0, 0, 192, 224, 240] 4 = 240 := rfl
          rw [er, w32 _ (by omega) (by omega)] at h
          obtain ⟨k', h⟩ := j0_l0 h
          obtain ⟨k', rfl⟩ := l0_pos h
          obtain ⟨s1, h⟩ := l0_step k' a0 4 240 (by omega) (by omega) 1 (by omega) (by omega) (by omega) _ h
          obtain ⟨k', rfl⟩ := l0_pos h
          obtain ⟨s2, h⟩ := l0_step k' a0 4 240 (by omega) (by omega) 2 (by omega) (by omega) (by omega) _ h
          obtain ⟨k', rfl⟩ := l0_pos h
          obtain ⟨s3, h⟩ := l0_step k' a0 4 240 (by omega) (by omega) 3 (by omega) (by omega) (by omega) _ h
          have := l0_end _ _ _ _ _ (by omega) _ h
          cases this
          exact letter_4 a0 w hS (by omega)
      · rw [if_neg h5] at h; cases h
    · rw [if_neg h1] at h
      obtain ⟨k', h⟩ := j0_l0 h
      have := l0_end _ _ _ _ _ h1 _ h
      cases this
      exact letter_low a0 w _ hS h1 hp'
  · rw [if_neg hp] at h; cases h
end PLitTexts
end Go.Proofs.YtgfdfmgocijdgaaGreatDoor
