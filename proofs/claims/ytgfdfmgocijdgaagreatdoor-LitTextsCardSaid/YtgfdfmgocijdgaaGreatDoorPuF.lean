/- Plain laws, without program or memory: what a text begins with is the same for both; what is left is not spoilt. -/
import Derived.Test.YtgfdfmgocijdgaaGreatDoorPuE
namespace Go.Proofs.YtgfdfmgocijdgaaGreatDoor
open Go.RowKit Go.Lib Go.Shelf Go.Proofs.YtgfdfmgocijdgaaGreatDoorW.PrintWords Go.Proofs.YtgfdfmgocijdgaaGreatDoorW.PrintLast Go.Proofs.YtgfdfmgocijdgaaGreatDoorW.PrintMore PLitTexts
theorem decGo_eq (s : ByteArray) (h : s.size ≠ 0) (hz : zL s.data.toList ≠ 0) : Lib.decodeGo s = (lvL s.data.toList, zL s.data.toList) := by
  unfold Lib.decodeGo
  rw [if_neg h, dec_at, List.drop_zero, if_neg hz]
theorem mk_list (s : ByteArray) : (⟨s.data.toList.toArray⟩ : ByteArray) = s := by simp
theorem esc_tab (s : ByteArray) (q C : Nat) (hq : q = 39 ∨ q = 34) (hs : s.size ≤ 4010) (h2 : 2 ≤ s.size) (k : Nat) (hk : 40 ≤ k) :
    indentureref06_One.l0 k s (q : Int) (C : Int) (Ys q) ((Ys q).length : Int) 0 = some (
      if (plainT C).2 = true then (((plainT C).1 : Int), true, 2)
      else if C = q then ((C : Int), true, 2)
      else if C = 85 then escS s.data.toList 2 8 16 1114111
      else if C = 117 then escS s.data.toList 2 4 16 1114111
      else if C = 120 then escS s.data.toList 2 2 16 255
      else escS s.data.toList 1 3 8 255) := by
  obtain ⟨k, rfl⟩ : ∃ j, k = j + 10 := ⟨k - 10, by omega⟩
  have s0 := one_step (k + 9) s q C 0 (by omega) 97 7 rfl rfl
  have s1 := one_step (k + 8) s q C 1 (by omega) 98 8 rfl rfl
  have s2 := one_step (k + 7) s q C 2 (by omega) 102 12 rfl rfl
  have s3 := one_step (k + 6) s q C 3 (by omega) 110 10 rfl rfl
  have s4 := one_step (k + 5) s q C 4 (by omega) 114 13 rfl rfl
  have s5 := one_step (k + 4) s q C 5 (by omega) 116 9 rfl rfl
  have s6 := one_step (k + 3) s q C 6 (by omega) 118 11 rfl rfl
  have s7 := one_step (k + 2) s q C 7 (by omega) 92 92 rfl rfl
  have s8 := one_step (k + 1) s q C 8 (by omega) (q : Int) (q : Int) rfl rfl
  have s9 : indentureref06_One.l0 (k + 1) s (q : Int) (C : Int) (Ys q) ((Ys q).length : Int) ((8 + 1 : Nat) : Int) = if (C : Int) = 117 then indentureref06_One.j2 k s (C : Int) true else indentureref06_One.j2 k s (C : Int) ((C : Int) == 85) := by
    have hl : ((Ys q).length : Int) = 9 := rfl
    simp only [indentureref06_One.l0]
    rw [if_neg (by omega)]
  have hend : (if (C : Int) = 117 then indentureref06_One.j2 k s (C : Int) true else indentureref06_One.j2 k s (C : Int) ((C : Int) == 85)) = some (if C = 85 then escS s.data.toList 2 8 16 1114111 else if C = 117 then escS s.data.toList 2 4 16 1114111 else if C = 120 then escS s.data.toList 2 2 16 255 else escS s.data.toList 1 3 8 255) := by
    by_cases h : C = 117
    · rw [if_pos (by omega)]
      exact one_j2 s C hs h2 k (by omega) true (by simp [h])
    · rw [if_neg (by omega)]
      refine one_j2 s C hs h2 k (by omega) _ ?_
      by_cases h' : C = 85
      · subst h'; rfl
      · rw [decide_eq_false (by omega), beq_eq_false_iff_ne]; omega
  have z : ((0 : Nat) : Int) = 0 := rfl
  rw [← z, s0]
  unfold plainT
  by_cases c0 : C = 97
  · rw [if_pos (by omega), if_pos c0, w32 _ (by omega) (by omega), if_pos rfl]; rfl
  rw [if_neg (by omega), if_neg c0, s1]
  by_cases c1 : C = 98
  · rw [if_pos (by omega), if_pos c1, w32 _ (by omega) (by omega), if_pos rfl]; rfl
  rw [if_neg (by omega), if_neg c1, s2]
  by_cases c2 : C = 102
  · rw [if_pos (by omega), if_pos c2, w32 _ (by omega) (by omega), if_pos rfl]; rfl
  rw [if_neg (by omega), if_neg c2, s3]
  by_cases c3 : C = 110
  · rw [if_pos (by omega), if_pos c3, w32 _ (by omega) (by omega), if_pos rfl]; rfl
  rw [if_neg (by omega), if_neg c3, s4]
  by_cases c4 : C = 114
  · rw [if_pos (by omega), if_pos c4, w32 _ (by omega) (by omega), if_pos rfl]; rfl
  rw [if_neg (by omega), if_neg c4, s5]
  by_cases c5 : C = 116
  · rw [if_pos (by omega), if_pos c5, w32 _ (by omega) (by omega), if_pos rfl]; rfl
  rw [if_neg (by omega), if_neg c5, s6]
  by_cases c6 : C = 118
  · rw [if_pos (by omega), if_pos c6, w32 _ (by omega) (by omega), if_pos rfl]; rfl
  rw [if_neg (by omega), if_neg c6, s7]
  by_cases c7 : C = 92
  · rw [if_pos (by omega), if_pos c7, w32 _ (by omega) (by omega), if_pos rfl]; rfl
  rw [if_neg (by omega), if_neg c7, s8]
  simp only [Bool.false_eq_true, if_false]
  by_cases c8 : C = q
  · rw [if_pos (by omega), if_pos c8, w32 _ (by omega) (by omega), c8]
  rw [if_neg (by omega), if_neg c8, s9, hend]
theorem one_f (s : ByteArray) (q : Nat) (hq : q = 39 ∨ q = 34) (hs : s.size ≤ 4010) (hz : s.size = 0 ∨ zL s.data.toList ≠ 0) (k : Nat) (hk : 45 ≤ k) :
    indentureref06_One.f k s (q : Int) = some (oneS s.data.toList q) := by
  obtain ⟨k, rfl⟩ : ∃ j, k = j + 1 := ⟨k - 1, by omega⟩
  unfold indentureref06_One.f oneS
  rw [len_list, mk_list]
  simp only [indentureref06_One.j0]
  by_cases h0 : s.size = 0
  · rw [if_pos (by omega), if_pos h0]; rfl
  have hz' : zL s.data.toList ≠ 0 := hz.resolve_left h0
  have hpos : 0 < s.size := by omega
  have e0 : bt s 0 = (bN s.data.toList 0 : Int) := bt_bN s 0 hpos
  rw [if_neg (by omega), if_neg h0, if_pos (by omega), e0]
  by_cases h1 : bN s.data.toList 0 = q
  · rw [if_pos (by omega), if_pos h1]; rfl
  rw [if_neg (by omega), if_neg h1]
  by_cases h2 : bN s.data.toList 0 = 10
  · rw [if_pos (by rw [beq_iff_eq]; omega), if_pos h2]
  rw [if_neg (by rw [beq_iff_eq]; omega), if_neg h2, if_pos (by omega)]
  by_cases h3 : bN s.data.toList 0 = 92
  · rw [if_pos (by omega), if_neg (show ¬ (bN s.data.toList 0 ≠ 92) from fun h => h h3)]
    by_cases h4 : s.size < 2
    · rw [if_pos (by omega), if_pos h4]
    · have e1 : bt s 1 = (bN s.data.toList 1 : Int) := bt_bN s 1 (by omega)
      rw [if_neg (by omega), if_neg h4, if_pos (by omega), e1]
      exact esc_tab s q _ hq hs (by omega) k (by omega)
  · rw [if_neg (by omega), if_pos h3, letter_f s hpos hs hz' k (by omega), decGo_eq s h0 hz']
    rfl
/-! ### what is left -/
theorem GoodL.z {l : List UInt8} (h : GoodL l) : l.length = 0 ∨ zL l ≠ 0 := by
  cases h with
  | nil => exact .inl rfl
  | step _ hz _ _ => exact .inr hz
theorem GoodL.tail {l : List UInt8} (h : GoodL l) (hn : l.length ≠ 0) (h1 : bN l 0 < 128) : GoodL (l.drop 1) := by
  cases h with
  | nil => exact absurd rfl hn
  | step _ hz _ h =>
    have : zL l = 1 := by unfold zL sizeN sizeB; rw [if_pos h1]
    rwa [this] at h
theorem GoodL.ascii {l : List UInt8} : ∀ (n : Nat), GoodL l → n ≤ l.length → (∀ i, i < n → bN l i < 128) → GoodL (l.drop n)
  | 0, h, _, _ => by rwa [List.drop_zero]
  | n + 1, h, hn, ha => by
    have h1 := GoodL.ascii n h (by omega) (fun i hi => ha i (by omega))
    have h2 := h1.tail (by rw [List.length_drop]; omega) (by rw [bN_drop]; exact ha _ (by omega))
    rwa [List.drop_drop] at h2
theorem dg_ascii (c : UInt8) (h : dg c < 16) : c.toNat < 128 := by
  unfold dg at h
  repeat' split at h
  all_goals omega
theorem value_ascii {l : List UInt8} {many base : Nat} (hb : base ≤ 16) (h : ¬ valueS l many base < 0) : many ≤ l.length ∧ ∀ i, i < many → bN l i < 128 := by
  have hm := value_neg h
  refine ⟨hm, fun i hi => ?_⟩
  unfold valueS at h
  rw [if_pos hm] at h
  by_cases hd : digs (base : Int) (l.take many) = true
  · have hl : i < l.length := by omega
    have hl' : i < (l.take many).length := by rw [List.length_take]; omega
    have := digs_lt hd _ (List.getElem_mem hl')
    rw [List.getElem_take] at this
    unfold bN
    rw [List.getD_eq_getElem?_getD, List.getElem?_eq_getElem hl, Option.getD_some]
    exact dg_ascii _ (by omega)
  · rw [if_neg hd] at h; omega
theorem esc_good {l : List UInt8} (h : GoodL l) (off many base most : Nat) (hb : base ≤ 16) (ha : ∀ i, i < off → bN l i < 128) (ho : off ≤ l.length) (hn : (escS l off many base most).2.2 ≠ 0) : GoodL (l.drop (escS l off many base most).2.2.toNat) := by
  unfold escS at *
  by_cases h1 : valueS (l.drop off) many base < 0
  · rw [if_pos h1] at hn; exact absurd rfl hn
  rw [if_neg h1] at *
  by_cases h2 : (most : Int) < valueS (l.drop off) many base
  · rw [if_pos h2] at hn; exact absurd rfl hn
  rw [if_neg h2] at *
  by_cases h3 : 255 < most ∧ Lib.validRune (valueS (l.drop off) many base) = false
  · rw [if_pos h3] at hn; exact absurd rfl hn
  rw [if_neg h3] at *
  obtain ⟨a1, a2⟩ := value_ascii hb h1
  rw [List.length_drop] at a1
  have e : ((off : Int) + (many : Int)).toNat = off + many := by omega
  show GoodL (l.drop ((off : Int) + (many : Int)).toNat)
  rw [e]
  refine h.ascii _ (by omega) fun i hi => ?_
  by_cases hio : i < off
  · exact ha i hio
  · have := a2 (i - off) (by omega)
    rw [bN_drop] at this
    rwa [show off + (i - off) = i by omega] at this
theorem plain_ascii (c : Nat) (h : (plainT c).2 = true) : c < 128 := by
  unfold plainT at h
  repeat' split at h
  all_goals first | omega | cases h
theorem two_ascii {l : List UInt8} (h0 : bN l 0 < 128) (h1 : bN l 1 < 128) : ∀ i, i < 2 → bN l i < 128 := by
  intro i hi
  obtain rfl | rfl : i = 0 ∨ i = 1 := by omega
  · exact h0
  · exact h1
theorem one_good {l : List UInt8} (q : Nat) (hq : q = 39 ∨ q = 34) (h : GoodL l) (hn : (oneS l q).2.2 ≠ 0) : GoodL (l.drop (oneS l q).2.2.toNat) := by
  unfold oneS at *
  by_cases h0 : l.length = 0
  · rw [if_pos h0] at hn; exact absurd rfl hn
  rw [if_neg h0] at *
  by_cases h1 : bN l 0 = q
  · rw [if_pos h1] at hn; exact absurd rfl hn
  rw [if_neg h1] at *
  by_cases h2 : bN l 0 = 10
  · rw [if_pos h2] at hn; exact absurd rfl hn
  rw [if_neg h2] at *
  by_cases h3 : bN l 0 ≠ 92
  · rw [if_pos h3] at *
    have hz := h.z.resolve_left h0
    have hsz : (⟨l.toArray⟩ : ByteArray).size ≠ 0 := by show l.toArray.size ≠ 0; simpa using h0
    have e := decGo_eq ⟨l.toArray⟩ hsz hz
    rw [e]
    show GoodL (l.drop ((zL l : Nat) : Int).toNat)
    rw [Int.toNat_natCast]
    cases h with
    | nil => exact absurd rfl h0
    | step _ _ _ h => exact h
  rw [if_neg h3] at *
  have b0 : bN l 0 < 128 := by omega
  by_cases h4 : l.length < 2
  · rw [if_pos h4] at hn; exact absurd rfl hn
  rw [if_neg h4] at *
  by_cases h5 : (plainT (bN l 1)).2 = true
  · rw [if_pos h5] at *
    exact h.ascii 2 (by omega) (two_ascii b0 (plain_ascii _ h5))
  rw [if_neg h5] at *
  by_cases h6 : bN l 1 = q
  · rw [if_pos h6] at *
    exact h.ascii 2 (by omega) (two_ascii b0 (by omega))
  rw [if_neg h6] at *
  by_cases h7 : bN l 1 = 85
  · rw [if_pos h7] at *
    exact esc_good h 2 8 16 1114111 (by omega) (two_ascii b0 (by omega)) (by omega) hn
  rw [if_neg h7] at *
  by_cases h8 : bN l 1 = 117
  · rw [if_pos h8] at *
    exact esc_good h 2 4 16 1114111 (by omega) (two_ascii b0 (by omega)) (by omega) hn
  rw [if_neg h8] at *
  by_cases h9 : bN l 1 = 120
  · rw [if_pos h9] at *
    exact esc_good h 2 2 16 255 (by omega) (two_ascii b0 (by omega)) (by omega) hn
  rw [if_neg h9] at *
  exact esc_good h 1 3 8 255 (by omega) (fun i hi => by obtain rfl : i = 0 := by omega
                                                        exact b0) (by omega) hn
end Go.Proofs.YtgfdfmgocijdgaaGreatDoor
