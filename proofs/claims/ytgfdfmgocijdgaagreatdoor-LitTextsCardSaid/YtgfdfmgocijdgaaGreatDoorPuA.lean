/- Plain laws, without program or memory: letters and spoilt texts. -/
import Derived.Test.YtgfdfmgocijdgaaGreatDoorWkF
import Derived.Test.YtgfdfmgocijdgaaGreatDoorLt
namespace Go.Proofs.YtgfdfmgocijdgaaGreatDoor
open Go.RowKit Go.Lib Go.Shelf Go.Proofs.YtgfdfmgocijdgaaGreatDoorW.PrintWords Go.Proofs.YtgfdfmgocijdgaaGreatDoorW.PrintLast Go.Proofs.YtgfdfmgocijdgaaGreatDoorW.PrintMore PLitTexts
/-- How many bytes the letter has with which a text begins; 0: there is none. t1, t2, t3: the next bytes may stand behind a first one. -/
def sizeB (t1 t2 t3 : Bool) (b0 b1 : Nat) : Nat :=
  if b0 < 128 then 1
  else if b0 < 194 then 0
  else if b0 ≤ 223 then (if t1 = true then 2 else 0)
  else if b0 ≤ 239 then (if t1 = true then (if t2 = true then (if b0 = 224 ∧ b1 < 160 then 0 else if b0 = 237 ∧ 159 < b1 then 0 else 3) else 0) else 0)
  else if b0 ≤ 244 then (if t1 = true then (if t2 = true then (if t3 = true then (if b0 = 240 ∧ b1 < 144 then 0 else if b0 = 244 ∧ 143 < b1 then 0 else 4) else 0) else 0) else 0)
  else 0
def tlB (n k b : Nat) : Bool := decide (k < n ∧ 128 ≤ b ∧ b ≤ 191)
def sizeN (n b0 b1 b2 b3 : Nat) : Nat := sizeB (tlB n 1 b1) (tlB n 2 b2) (tlB n 3 b3) b0 b1
def zL (l : List UInt8) : Nat := sizeN l.length (bN l 0) (bN l 1) (bN l 2) (bN l 3)
theorem bN_drop (l : List UInt8) (i j : Nat) : bN (l.drop i) j = bN l (i + j) := by
  unfold bN; rw [List.getD_eq_getElem?_getD, List.getD_eq_getElem?_getD, List.getElem?_drop]
theorem get_bN (s : ByteArray) (i : Nat) : (s.get! i).toNat = bN s.data.toList i := by
  unfold bN
  show (s.data[i]!).toNat = _
  rw [List.getD_eq_getElem?_getD, Array.getElem?_toList, getElem!_def]
  cases s.data[i]? <;> rfl
theorem tail_f (s : ByteArray) (j : Nat) : indentureref04_tail.f s (j : Int) = some (decide (j < s.size ∧ 128 ≤ bN s.data.toList j ∧ bN s.data.toList j ≤ 191)) := by
  unfold indentureref04_tail.f
  by_cases h : j < s.size
  · rw [if_pos (by omega), if_pos (by omega), bt_bN s j h]
    by_cases h1 : 128 ≤ bN s.data.toList j
    · rw [if_pos (by omega)]
      congr 1
      rw [decide_eq_decide]
      omega
    · rw [if_neg (by omega)]
      congr 1
      symm
      rw [decide_eq_false_iff_not]
      omega
  · rw [if_neg (by omega)]
    congr 1
    symm
    rw [decide_eq_false_iff_not]
    omega
set_option maxHeartbeats 4000000 in
theorem size_f (s : ByteArray) (i k : Nat) (hi : i < s.size) (hs : s.size ≤ 4010) : indentureref04_Size.f (k + 3) s (i : Int) = some ((zL (s.data.toList.drop i) : Nat) : Int) := by
  have hl := len_list s
  have e1 : wrap64 ((i : Int) + 1) = ((i + 1 : Nat) : Int) := w64 _ (by omega) (by omega)
  have e2 : wrap64 ((i : Int) + 2) = ((i + 2 : Nat) : Int) := w64 _ (by omega) (by omega)
  have e3 : wrap64 ((i : Int) + 3) = ((i + 3 : Nat) : Int) := w64 _ (by omega) (by omega)
  unfold zL
  rw [List.length_drop, hl, bN_drop, bN_drop, bN_drop, bN_drop, Nat.add_zero]
  have hx0 := bt_bN s i hi
  have hx1 : i + 1 < s.size → bt s ((i + 1 : Nat) : Int) = (bN s.data.toList (i + 1) : Int) := bt_bN s (i + 1)
  have t1 := tail_f s (i + 1)
  have t2 := tail_f s (i + 2)
  have t3 := tail_f s (i + 3)
  generalize bN s.data.toList i = b0 at *
  generalize bN s.data.toList (i + 1) = b1 at *
  generalize bN s.data.toList (i + 2) = b2 at *
  generalize bN s.data.toList (i + 3) = b3 at *
  have d1 : decide (i + 1 < s.size ∧ 128 ≤ b1 ∧ b1 ≤ 191) = tlB (s.size - i) 1 b1 := by unfold tlB; rw [decide_eq_decide]; omega
  have d2 : decide (i + 2 < s.size ∧ 128 ≤ b2 ∧ b2 ≤ 191) = tlB (s.size - i) 2 b2 := by unfold tlB; rw [decide_eq_decide]; omega
  have d3 : decide (i + 3 < s.size ∧ 128 ≤ b3 ∧ b3 ≤ 191) = tlB (s.size - i) 3 b3 := by unfold tlB; rw [decide_eq_decide]; omega
  rw [d1] at t1
  rw [d2] at t2
  rw [d3] at t3
  have hx1' : tlB (s.size - i) 1 b1 = true → bt s ((i + 1 : Nat) : Int) = (b1 : Int) ∧ ((i + 1 : Nat) : Int) < (s.size : Int) := by
    intro h
    rw [← d1, decide_eq_true_eq] at h
    exact ⟨hx1 h.1, by omega⟩
  unfold sizeN
  generalize tlB (s.size - i) 1 b1 = T1 at *
  generalize tlB (s.size - i) 2 b2 = T2 at *
  generalize tlB (s.size - i) 3 b3 = T3 at *
  have i1 : 0 ≤ ((i + 1 : Nat) : Int) := by omega
  have k1 : 0 ≤ (i : Int) := by omega
  have k2 : (i : Int) < (s.size : Int) := by omega
  clear d1 d2 d3 hx1 hl
  unfold indentureref04_Size.f
  simp only [indentureref04_Size.j0, indentureref04_Size.j1, indentureref04_Size.j2, hx0, e1, e2, e3, t1, t2, t3, Option.bind_some, if_pos k1, if_pos k2, if_pos i1]
  unfold sizeB
  clear t1 t2 t3 hx0 e1 e2 e3 k1 k2
  by_cases c0 : b0 < 128
  · rw [if_pos c0, if_pos (by omega)]; rfl
  rw [if_neg c0, if_neg (by omega)]
  by_cases c1 : b0 < 194
  · rw [if_pos c1, if_neg (by omega)]
    simp only [Bool.false_eq_true, if_false]
    rw [if_neg (by omega), if_neg (by omega)]; rfl
  rw [if_neg c1, if_pos (by omega)]
  by_cases c2 : b0 ≤ 223
  · rw [if_pos c2, if_pos (by omega)]
    cases T1 with
    | true => rfl
    | false =>
      simp only [Bool.false_eq_true, if_false]
      rw [if_neg (by omega), if_neg (by omega)]; rfl
  rw [if_neg c2, if_neg (by omega)]
  (try simp only [Bool.false_eq_true, if_false])
  rw [if_pos (by omega)]
  by_cases c3 : b0 ≤ 239
  · rw [if_pos c3, if_pos (by omega)]
    cases T1 with
    | false =>
      simp only [Bool.false_eq_true, if_false]
      rw [if_neg (by omega)]; rfl
    | true =>
      obtain ⟨hb, hj⟩ := hx1' rfl
      simp only [if_true]
      cases T2 with
      | false =>
        simp only [Bool.false_eq_true, if_false]
        rw [if_neg (by omega)]; rfl
      | true =>
        simp only [if_true, hb, if_pos hj]
        repeat' split
        all_goals first | rfl | (exfalso; omega)
  rw [if_neg c3, if_neg (by omega)]
  (try simp only [Bool.false_eq_true, if_false])
  rw [if_pos (by omega)]
  by_cases c4 : b0 ≤ 244
  · rw [if_pos c4, if_pos (by omega)]
    cases T1 with
    | false => simp only [Bool.false_eq_true, if_false]; rfl
    | true =>
      obtain ⟨hb, hj⟩ := hx1' rfl
      simp only [if_true]
      cases T2 with
      | false => simp only [Bool.false_eq_true, if_false]; rfl
      | true =>
        simp only [if_true]
        cases T3 with
        | false => simp only [Bool.false_eq_true, if_false]; rfl
        | true =>
          simp only [if_true, hb, if_pos hj]
          repeat' split
          all_goals first | rfl | (exfalso; omega)
  rw [if_neg c4, if_neg (by omega)]
  first | rfl | (simp only [Bool.false_eq_true, if_false]; rfl)
end Go.Proofs.YtgfdfmgocijdgaaGreatDoor
