/- Plain laws, without program or memory: what is spoilt is the same for both. -/
import Derived.Test.YtgfdfmgocijdgaaGreatDoorPuB
namespace Go.Proofs.YtgfdfmgocijdgaaGreatDoor
open Go.RowKit Go.Lib Go.Shelf Go.Proofs.YtgfdfmgocijdgaaGreatDoorW.PrintWords Go.Proofs.YtgfdfmgocijdgaaGreatDoorW.PrintLast Go.Proofs.YtgfdfmgocijdgaaGreatDoorW.PrintMore PLitTexts
def lvL (l : List UInt8) : Nat := lv (zL l) (bN l 0) (bN l 1) (bN l 2) (bN l 3)
theorem dec_at (s : ByteArray) (i : Nat) : Utf8.decode s i = if zL (s.data.toList.drop i) = 0 then (65533, 1) else (lvL (s.data.toList.drop i), zL (s.data.toList.drop i)) := by
  have h : zL (s.data.toList.drop i) = sizeN (s.size - i) (bN s.data.toList i) (bN s.data.toList (i + 1)) (bN s.data.toList (i + 2)) (bN s.data.toList (i + 3)) := by
    unfold zL
    rw [List.length_drop, len_list, bN_drop, bN_drop, bN_drop, bN_drop, Nat.add_zero]
  unfold lvL
  rw [decode_at, get_bN, get_bN, get_bN, get_bN, h, bN_drop, bN_drop, bN_drop, bN_drop, Nat.add_zero]
  exact decode_size _ _ _ _ _ (bN_lt _ _) (bN_lt _ _) (bN_lt _ _) (bN_lt _ _)
theorem hp3 (m : List UInt8) : Lib.hasPrefix m [239, 191, 189] = true ↔ (3 ≤ m.length ∧ bN m 0 = 239 ∧ bN m 1 = 191 ∧ bN m 2 = 189) := by
  have e : ∀ (a : UInt8) (n : UInt8), (n == a) = true ↔ a.toNat = n.toNat := fun a n => by
    rw [beq_iff_eq, ← UInt8.toNat_inj]
    exact ⟨fun h => h.symm, fun h => h.symm⟩
  unfold Lib.hasPrefix
  match m with
  | [] => simp [List.isPrefixOf]
  | [a] => simp [List.isPrefixOf]
  | [a, b] => simp [List.isPrefixOf]
  | a :: b :: c :: t =>
    simp only [List.isPrefixOf, Bool.and_eq_true, Bool.and_true, e]
    constructor
    · rintro ⟨h1, h2, h3⟩
      exact ⟨by simp, h1, h2, h3⟩
    · rintro ⟨_, h1, h2, h3⟩
      exact ⟨h1, h2, h3⟩
theorem lv_zero (l : List UInt8) (hz : zL l ≠ 0) : lvL l = 0 ↔ bN l 0 = 0 := by
  unfold lvL lv
  unfold zL at *
  rcases sizeN_cases l.length (bN l 0) (bN l 1) (bN l 2) (bN l 3) with ⟨h, h'⟩ | ⟨h, h'⟩ | ⟨h, h'⟩ | ⟨h, h'⟩ | ⟨h, h'⟩
  · rw [h]; simp
  · rw [h]; simp only [Nat.reduceEqDiff, if_false, if_true]; omega
  · rw [h]; simp only [Nat.reduceEqDiff, if_false, if_true]; omega
  · rw [h]; simp only [Nat.reduceEqDiff, if_false]; omega
  · exact absurd h hz
theorem lv_err (l : List UInt8) (hz : zL l ≠ 0) : lvL l = 65533 ↔ (3 ≤ l.length ∧ bN l 0 = 239 ∧ bN l 1 = 191 ∧ bN l 2 = 189) := by
  unfold lvL lv
  unfold zL at *
  rcases sizeN_cases l.length (bN l 0) (bN l 1) (bN l 2) (bN l 3) with ⟨h, h'⟩ | ⟨h, h'⟩ | ⟨h, h'⟩ | ⟨h, h'⟩ | ⟨h, h'⟩
  · rw [h]; simp only [if_true]; omega
  · rw [h]; simp only [Nat.reduceEqDiff, if_false, if_true]; omega
  · rw [h]; simp only [Nat.reduceEqDiff, if_false, if_true]; omega
  · rw [h]; simp only [Nat.reduceEqDiff, if_false]; omega
  · exact absurd h hz
theorem z_err (l : List UInt8) (h : 3 ≤ l.length ∧ bN l 0 = 239 ∧ bN l 1 = 191 ∧ bN l 2 = 189) : zL l = 3 := by
  unfold zL at *
  rcases sizeN_cases l.length (bN l 0) (bN l 1) (bN l 2) (bN l 3) with ⟨h', h2⟩ | ⟨h', h2⟩ | ⟨h', h2⟩ | ⟨h', h2⟩ | ⟨h', h2⟩ <;> rw [h'] <;> omega
theorem bad_eq (s : ByteArray) (i : Nat) : badAt s i = decide (zL (s.data.toList.drop i) = 0 ∨ bN (s.data.toList.drop i) 0 = 0) := by
  have ht : List.take (s.size - i) (List.drop i s.data.toList) = List.drop i s.data.toList := List.take_of_length_le (by rw [List.length_drop, len_list]; exact Nat.le_refl _)
  unfold badAt
  rw [dec_at, ht]
  generalize s.data.toList.drop i = m
  by_cases hz : zL m = 0
  · rw [if_pos hz, decide_eq_true (.inl hz)]
    have hp : Lib.hasPrefix m [239, 191, 189] = false := by
      rw [Bool.eq_false_iff]
      intro h
      have := z_err m ((hp3 m).1 h)
      omega
    rw [hp]; rfl
  · rw [if_neg hz]
    by_cases h0 : bN m 0 = 0
    · rw [decide_eq_true (.inr h0)]
      have := (lv_zero m hz).2 h0
      simp [this]
    · rw [decide_eq_false (fun h => h.elim hz h0)]
      have h1 : lvL m ≠ 0 := fun h => h0 ((lv_zero m hz).1 h)
      by_cases h2 : lvL m = 65533
      · have hp := (hp3 m).2 ((lv_err m hz).1 h2)
        simp [hp, h2]
      · simp [h1, h2]
/-- A text none of whose letters is bad. -/
inductive GoodL : List UInt8 → Prop
  | nil : GoodL []
  | step (l : List UInt8) (hz : zL l ≠ 0) (h0 : bN l 0 ≠ 0) (h : GoodL (l.drop (zL l))) : GoodL l
theorem zL_le (l : List UInt8) (h : l ≠ []) : zL l ≤ l.length := by
  have hl : 1 ≤ l.length := by cases l with
    | nil => exact absurd rfl h
    | cons => simp
  unfold zL
  rcases sizeN_cases l.length (bN l 0) (bN l 1) (bN l 2) (bN l 3) with ⟨h', h2⟩ | ⟨h', h2⟩ | ⟨h', h2⟩ | ⟨h', h2⟩ | ⟨h', h2⟩ <;> rw [h'] <;> omega
theorem good_goodL (s : ByteArray) : ∀ (b i : Nat), s.size ≤ i + b → good s b i = true → GoodL (s.data.toList.drop i)
  | 0, i, hb, _ => by
    rw [List.drop_eq_nil_of_le (by rw [len_list]; omega)]; exact .nil
  | b + 1, i, hb, h => by
    unfold good at h
    by_cases hi : i < s.size
    · rw [if_pos hi] at h
      by_cases hbad : badAt s i = true
      · rw [if_pos hbad] at h; cases h
      · rw [if_neg hbad] at h
        rw [bad_eq, decide_eq_true_eq] at hbad
        have hz : zL (s.data.toList.drop i) ≠ 0 := fun e => hbad (.inl e)
        rw [dec_at, if_neg hz] at h
        have := good_goodL s b _ (by omega) h
        rw [← List.drop_drop] at this
        exact .step _ hz (fun e => hbad (.inr e)) this
    · rw [List.drop_eq_nil_of_le (by rw [len_list]; omega)]; exact .nil
/-- Whether a text is spoilt, as the reference says. -/
theorem spoilt_f (s : ByteArray) (hs : s.size ≤ 4010) : ∀ (b i k : Nat), s.size ≤ i + b → i ≤ s.size → b + 4 ≤ k → ∃ r, indentureref04_Spoilt.l0 k s (i : Int) = some r ∧ -1 ≤ r ∧ (r < 0 ↔ good s b i = true) := by
  intro b
  induction b with
  | zero =>
    intro i k hb hi hk
    obtain ⟨k, rfl⟩ : ∃ j, k = j + 1 := ⟨k - 1, by omega⟩
    simp only [indentureref04_Spoilt.l0]
    rw [if_neg (by omega)]
    exact ⟨_, rfl, by omega, by simp [good]⟩
  | succ b ih =>
    intro i k hb hi hk
    obtain ⟨k, rfl⟩ : ∃ j, k = j + 1 := ⟨k - 1, by omega⟩
    obtain ⟨j, hj⟩ : ∃ j, k = j + 3 := ⟨k - 3, by omega⟩
    simp only [indentureref04_Spoilt.l0, good]
    by_cases hlt : i < s.size
    · have hsz : indentureref04_Size.f k s (i : Int) = some ((zL (s.data.toList.drop i) : Nat) : Int) := by rw [hj]; exact size_f s i j hlt hs
      rw [if_pos (by omega), if_pos hlt, hsz, Option.bind_some]
      have hb0 : bt s (i : Int) = (bN (s.data.toList.drop i) 0 : Int) := by rw [bt_bN s i hlt, bN_drop, Nat.add_zero]
      have hbad := bad_eq s i
      have hdec := dec_at s i
      have hne : s.data.toList.drop i ≠ [] := fun e => by
        have := congrArg List.length e
        rw [List.length_drop, len_list] at this
        simp at this; omega
      have hzle := zL_le _ hne
      rw [List.length_drop, len_list] at hzle
      generalize s.data.toList.drop i = m at *
      by_cases hz : zL m = 0
      · rw [if_pos (by omega)]
        rw [decide_eq_true (.inl hz)] at hbad
        refine ⟨_, rfl, by omega, ?_⟩
        rw [if_pos hbad]
        simp
      · rw [if_neg (by omega), if_pos (by omega), hb0]
        by_cases h0 : bN m 0 = 0
        · rw [if_pos (by omega)]
          rw [decide_eq_true (.inr h0)] at hbad
          refine ⟨_, rfl, by omega, ?_⟩
          rw [if_pos hbad]
          simp
        · rw [if_neg (by omega)]
          rw [decide_eq_false (fun h => h.elim hz h0)] at hbad
          rw [if_neg (by rw [hbad]; simp), hdec, if_neg hz]
          have e1 : wrap64 ((i : Int) + (zL m : Int)) = ((i + zL m : Nat) : Int) := by rw [w64 _ (by omega) (by omega)]; simp
          rw [e1]
          exact ih (i + zL m) k (by omega) (by omega) (by omega)
    · rw [if_neg (by omega), if_neg hlt]
      exact ⟨_, rfl, by omega, by simp⟩
theorem bad_f (s : ByteArray) (hs : s.size ≤ 4010) : ∃ k, indentureref06_Bad.f k s = some (chkE s) := by
  obtain ⟨r, hr, h1, h2⟩ := spoilt_f s hs s.size 0 (s.size + 4) (by omega) (by omega) (by omega)
  refine ⟨s.size + 4, ?_⟩
  unfold indentureref06_Bad.f chkE
  by_cases hl : s.size ≤ 4000
  · rw [if_neg (by omega), if_pos hl]
    unfold indentureref04_Spoilt.f
    have hr' : indentureref04_Spoilt.l0 (s.size + 4) s 0 = some r := hr
    rw [hr', Option.bind_some]
    by_cases hg : good s s.size 0 = true
    · rw [if_pos hg, if_neg (by have := h2.2 hg; omega)]
    · have hr0 : ¬ r < 0 := fun h => hg (h2.1 h)
      rw [if_neg hg, if_pos (by omega)]
  · rw [if_pos (by omega), if_neg hl]
theorem good_of_chk (s : ByteArray) (h : chkE s = 0) : GoodL s.data.toList := by
  unfold chkE at h
  by_cases hl : s.size ≤ 4000
  · rw [if_pos hl] at h
    by_cases hg : good s s.size 0 = true
    · have := good_goodL s s.size 0 (by omega) hg
      rwa [List.drop_zero] at this
    · rw [if_neg hg] at h; cases h
  · rw [if_neg hl] at h; cases h
end Go.Proofs.YtgfdfmgocijdgaaGreatDoor
