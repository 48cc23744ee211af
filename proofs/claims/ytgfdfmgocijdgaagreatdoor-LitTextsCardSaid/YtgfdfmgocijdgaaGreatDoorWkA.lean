/- src.Check of the checked program, walked: what it answers, as a plain function. -/
import Derived.Test.YtgfdfmgocijdgaaGreatDoorSh
import Derived.WalkKit
import Derived.Below
import Derived.KernelRfl
import Derived.LoopTactic
import Derived.Laws.RangeString
import Derived.Laws.RangeAny
import Derived.Lib.Hide
namespace Go.Proofs.YtgfdfmgocijdgaaGreatDoor
open Go.RowKit Go.Lib
/-- Is the letter at place i none that may be? -/
def badAt (s : ByteArray) (i : Nat) : Bool :=
  (Utf8.decode s i).1 == 0 || ((Utf8.decode s i).1 == 65533 && !(Lib.hasPrefix (List.take (s.size - i) (List.drop i s.data.toList)) [239, 191, 189]))
/-- No letter from place i on is bad. -/
def good (s : ByteArray) : Nat → Nat → Bool
  | 0, _ => true
  | b + 1, i => if i < s.size then (if badAt s i = true then false else good s b (i + (Utf8.decode s i).2)) else true
def chkE (s : ByteArray) : Int := if s.size ≤ 4000 then (if good s s.size 0 = true then 0 else 12) else 7
def ChkPost (s : ByteArray) (w : World) (e : Ending) (w' : World) : Prop :=
  ∃ p : Int, e = .returned (.tuple #[.int .i64 p, .int .i64 (chkE s)]) ∧ Below w.heap.size w w'
theorem good_end (s : ByteArray) (b pos : Nat) (h : ¬ pos < s.size) : good s b pos = true := by
  cases b with
  | zero => rfl
  | succ b => simp [good, h]
theorem iter_below (w : World) (s : ByteArray) (pos : Nat) : Below w.heap.size w (w.iter s pos) := (Below.refl _ _).alloc (Nat.le_refl _) _
theorem width_pos (s : ByteArray) (pos : Nat) (h : pos < s.size) : 1 ≤ (Utf8.decode s pos).2 := by
  by_cases ha : (s[pos]'h).toNat < 128
  · rw [decode_ascii s pos h ha]
    exact Nat.le_refl _
  · exact (decode_high s pos h (by omega)).2
theorem chk_no (s : ByteArray) (w w' : World) (p : Int) (h : s.size ≤ 4000) (hg : good s s.size 0 = false) (hb : Below w.heap.size w w') : ChkPost s w (.returned (.tuple #[.int .i64 p, .int .i64 12])) w' := by
  refine ⟨p, ?_, hb⟩
  unfold chkE
  rw [if_pos h, hg]; rfl
theorem chk_yes (s : ByteArray) (w w' : World) (p : Int) (h : s.size ≤ 4000) (hg : good s s.size 0 = true) (hb : Below w.heap.size w w') : ChkPost s w (.returned (.tuple #[.int .i64 p, .int .i64 0])) w' := by
  refine ⟨p, ?_, hb⟩
  unfold chkE
  rw [if_pos h, hg]; rfl
theorem bad_zero (s : ByteArray) (pos : Nat) (h : (((Utf8.decode s pos).1 : Nat) : Int) == 0) : badAt s pos = true := by
  have h' : (Utf8.decode s pos).1 = 0 := by have := eq_of_beq h; omega
  unfold badAt; rw [h']; rfl
theorem bad_err (s : ByteArray) (pos : Nat) (h : (((Utf8.decode s pos).1 : Nat) : Int) = 65533) (hn : (!(Lib.hasPrefix (List.take (s.size - pos) (List.drop pos s.data.toList)) [239, 191, 189])) = true) : badAt s pos = true := by
  have h' : (Utf8.decode s pos).1 = 65533 := by omega
  unfold badAt; rw [h', hn]; rfl
theorem good_bad (s : ByteArray) (b pos : Nat) (hp : pos < s.size) (hb : s.size ≤ pos + b) (h : badAt s pos = true) (hc : good s b pos = good s s.size 0) : good s s.size 0 = false := by
  rw [← hc]
  cases b with
  | zero => omega
  | succ b => simp [good, hp, h]
theorem good_step (s : ByteArray) (b pos : Nat) (hp : pos < s.size) (hb : s.size ≤ pos + b) (h : badAt s pos = false) (hc : good s b pos = good s s.size 0) :
    ∃ b', good s b' (pos + (Utf8.decode s pos).2) = good s s.size 0 ∧ s.size ≤ pos + (Utf8.decode s pos).2 + b' := by
  have hw := width_pos s pos hp
  cases b with
  | zero => omega
  | succ b => exact ⟨b, by rw [← hc]; simp [good, hp, h], by omega⟩
theorem fine_err (s : ByteArray) (pos : Nat) (h : ((((Utf8.decode s pos).1 : Nat) : Int) == 0) = false) (hn : (!(Lib.hasPrefix (List.take (s.size - pos) (List.drop pos s.data.toList)) [239, 191, 189])) = false) : badAt s pos = false := by
  have h' : ((Utf8.decode s pos).1 == 0) = false := by rw [beq_eq_false_iff_ne] at h ⊢; omega
  unfold badAt; rw [h', hn]; simp
theorem fine (s : ByteArray) (pos : Nat) (h : ((((Utf8.decode s pos).1 : Nat) : Int) == 0) = false) (hn : ¬ (((Utf8.decode s pos).1 : Nat) : Int) = 65533) : badAt s pos = false := by
  have h' : ((Utf8.decode s pos).1 == 0) = false := by rw [beq_eq_false_iff_ne] at h ⊢; omega
  have h2 : ((Utf8.decode s pos).1 == 65533) = false := by rw [beq_eq_false_iff_ne]; omega
  unfold badAt; rw [h', h2]; simp
theorem chk_big (s : ByteArray) (w : World) (p : Int) (h : ¬ s.size ≤ 4000) : ChkPost s w (.returned (.tuple #[.int .i64 p, .int .i64 7])) w := by
  refine ⟨p, ?_, Below.refl _ _⟩
  unfold chkE
  rw [if_neg h]
set_option maxRecDepth 1000000 in
set_option maxHeartbeats 4000000 in
theorem check_any (s : ByteArray) (w : World) : Calls Tryz.prog 10 #[.string s] w (ChkPost s w) := by
  by_cases hbig : s.size ≤ 4000
  · have hb1 : decide (4000 < (s.size : Int)) = false := decide_eq_false (by omega)
    have hb2 : decide (4000 < s.size) = false := decide_eq_false (by omega)
    go_enter Tryz.func10, Tryz.ntmps10
    go_wp2
    go_loopw [] (fun w' => ∃ pos b : Nat, w' = w.iter s pos ∧ Hid (good s b pos = good s s.size 0) ∧ s.size ≤ pos + b) (fun w' => s.size - w'.iterPos w.heap.size)
    case atStart => exact ⟨0, s.size, rfl, Lib.hid rfl, by omega⟩
    case round =>
      obtain ⟨pos, b, rfl, hc, hb⟩ := hrel
      by_cases hp : pos < s.size
      · have hnx : ∀ ty, (Instr.next (.pointer (some ⟨w.heap.size, 0, none⟩)) true ty).run Tryz.prog (w.iter s pos) = _ := fun ty => run_next_any w s pos ty hp
        have hwd := width_pos s pos hp
        go_wp2_with (first | (go_at_call 22; (with_reducible refine (Tryz.strings_HasPrefix _ _ _).mono ?_); rintro e w' ⟨rfl, rfl⟩))
        · rename_i h1
          go_ret2
          exact chk_no s w _ _ hbig (good_bad s b pos hp hb (bad_zero s pos h1) hc.out) (iter_below _ _ _)
        · rename_i h1 h2 h3
          go_ret2
          exact chk_no s w _ _ hbig (good_bad s b pos hp hb (bad_err s pos h2 h3) hc.out) (iter_below _ _ _)
        · rename_i h1 h2 h3
          obtain ⟨b', k1, k2⟩ := good_step s b pos hp hb (fine_err s pos h1 h3) hc.out
          go_roundw
          case rel => exact ⟨_, b', rfl, Lib.hid k1, k2⟩
          case measure => simp; omega
        · rename_i h1 h2
          obtain ⟨b', k1, k2⟩ := good_step s b pos hp hb (fine s pos h1 h2) hc.out
          go_roundw
          case rel => exact ⟨_, b', rfl, Lib.hid k1, k2⟩
          case measure => simp; omega
      · have hnx : ∀ ty, (Instr.next (.pointer (some ⟨w.heap.size, 0, none⟩)) true ty).run Tryz.prog (w.iter s pos) = _ := fun ty => run_next_end w s pos ty hp
        go_wp2
        go_ret2
        exact chk_yes s w _ _ hbig (hc.out.symm.trans (good_end s b pos hp)) (iter_below _ _ _)
  · have hb1 : decide (4000 < (s.size : Int)) = true := decide_eq_true (by omega)
    have hb2 : decide (4000 < s.size) = true := decide_eq_true (by omega)
    go_enter Tryz.func10, Tryz.ntmps10
    go_wp2
    go_ret2
    exact chk_big s w 0 hbig
end Go.Proofs.YtgfdfmgocijdgaaGreatDoor
