/- Plain laws, without program or memory: digits, letters. -/
import Derived.Test.YtgfdfmgocijdgaaGreatDoorPuC
import Derived.Test.YtgfdfmgocijdgaaGreatDoorPRx4
namespace Go.Proofs.YtgfdfmgocijdgaaGreatDoor
open Go.RowKit Go.Lib Go.Shelf Go.Proofs.YtgfdfmgocijdgaaGreatDoorW.PrintWords Go.Proofs.YtgfdfmgocijdgaaGreatDoorW.PrintLast Go.Proofs.YtgfdfmgocijdgaaGreatDoorW.PrintMore PLitTexts
theorem dgr_2 (c : UInt8) : indentureref01_Digit.f 2 (c.toNat : Int) = some (dg c : Int) := by
  have h : ∀ c : Fin 256, indentureref01_Digit.f 2 ((UInt8.ofFin c).toNat : Int) = some (dg (UInt8.ofFin c) : Int) := by decide +kernel
  exact h c.toFin
theorem dgr_f (c : UInt8) : ∀ k : Nat, indentureref01_Digit.f (k + 2) (c.toNat : Int) = some (dg c : Int)
  | 0 => dgr_2 c
  | k + 1 => indentureref01_Digit.mono _ _ _ (dgr_f c k)
theorem bt_get (s : ByteArray) (i : Nat) (h : i < s.size) : ∃ c, s.data.toList[i]? = some c ∧ bt s (i : Int) = (c.toNat : Int) := by
  have hl : i < s.data.toList.length := by rw [len_list]; exact h
  refine ⟨s.data.toList[i], List.getElem?_eq_getElem hl, ?_⟩
  rw [bt_bN s i h]
  unfold bN
  rw [List.getD_eq_getElem?_getD, List.getElem?_eq_getElem hl]
  rfl
theorem syntax_l0 (s : ByteArray) (base : Nat) (hs : s.size ≤ 4010) : ∀ (d i k : Nat), s.size ≤ i + d → i ≤ s.size → d + 3 ≤ k →
    indentureref01_Syntax.l0 k s (base : Int) (i : Int) = some (digs base (s.data.toList.drop i) && decide (0 < s.size)) := by
  intro d
  induction d with
  | zero =>
    intro i k h hi hk
    obtain ⟨k, rfl⟩ : ∃ j, k = j + 1 := ⟨k - 1, by omega⟩
    simp only [indentureref01_Syntax.l0]
    rw [if_neg (by omega), List.drop_eq_nil_of_le (by rw [len_list]; omega)]
    simp [digs]
  | succ d ih =>
    intro i k h hi hk
    obtain ⟨k, rfl⟩ : ∃ j, k = j + 1 := ⟨k - 1, by omega⟩
    obtain ⟨j, hj⟩ : ∃ j, k = j + 2 := ⟨k - 2, by omega⟩
    simp only [indentureref01_Syntax.l0]
    by_cases hlt : i < s.size
    · obtain ⟨c, hc, hb⟩ := bt_get s i hlt
      have hdg : indentureref01_Digit.f k (c.toNat : Int) = some (dg c : Int) := by rw [hj]; exact dgr_f c j
      have hdrop : s.data.toList.drop i = c :: s.data.toList.drop (i + 1) := by
        have hl : i < s.data.toList.length := by rw [len_list]; exact hlt
        rw [List.drop_eq_getElem_cons hl]
        rw [List.getElem?_eq_getElem hl] at hc
        rw [Option.some.inj hc]
      rw [if_pos (by omega), if_pos (by omega), hb, hdg, Option.bind_some, hdrop]
      have hcons : digs (base : Int) (c :: s.data.toList.drop (i + 1)) = (!odd base c && digs base (s.data.toList.drop (i + 1))) := rfl
      rw [hcons]
      by_cases ho : (base : Int) ≤ (dg c : Int)
      · rw [if_pos (by omega)]
        unfold odd
        rw [decide_eq_true ho]; rfl
      · rw [if_neg (by omega)]
        have ho' : odd base c = false := decide_eq_false ho
        rw [ho']
        have e1 : wrap64 ((i : Int) + 1) = ((i + 1 : Nat) : Int) := by rw [w64 _ (by omega) (by omega)]; simp
        rw [e1, ih (i + 1) k (by omega) (by omega) (by omega)]
        simp
    · rw [if_neg (by omega), List.drop_eq_nil_of_le (by rw [len_list]; omega)]
      simp [digs]
theorem value_l0 (s : ByteArray) (many base : Nat) (hbase : base = 8 ∨ base = 16) (hm : many ≤ 8) (hs : many ≤ s.size) (hs' : s.size ≤ 4010) (hd : ∀ c ∈ s.data.toList.take many, dg c < base) :
    ∀ (d i acc k : Nat), many = i + d → d + 3 ≤ k → acc < base ^ i →
      indentureref06_value.l0 k s (many : Int) (base : Int) (acc : Int) (i : Int) = some ((((s.data.toList.take many).drop i).foldl (fun v c => v * base + dg c) acc : Nat) : Int) := by
  intro d
  induction d with
  | zero =>
    intro i acc k h hk ha
    obtain ⟨k, rfl⟩ : ∃ j, k = j + 1 := ⟨k - 1, by omega⟩
    simp only [indentureref06_value.l0]
    rw [if_neg (by omega), List.drop_eq_nil_of_le (by rw [List.length_take]; omega)]
    rfl
  | succ d ih =>
    intro i acc k h hk ha
    obtain ⟨k, rfl⟩ : ∃ j, k = j + 1 := ⟨k - 1, by omega⟩
    obtain ⟨j, hj⟩ : ∃ j, k = j + 2 := ⟨k - 2, by omega⟩
    simp only [indentureref06_value.l0]
    have hlt : i < s.size := by omega
    obtain ⟨c, hc, hb⟩ := bt_get s i hlt
    have hdg : indentureref01_Digit.f k (c.toNat : Int) = some (dg c : Int) := by rw [hj]; exact dgr_f c j
    have hl : i < (s.data.toList.take many).length := by rw [List.length_take, len_list]; omega
    have hc' : (s.data.toList.take many)[i] = c := by
      have : (s.data.toList.take many)[i]? = some c := by rw [List.getElem?_take, if_pos (by omega), hc]
      rw [List.getElem?_eq_getElem hl] at this
      exact Option.some.inj this
    have hdc : dg c < base := hd c (by rw [← hc']; exact List.getElem_mem hl)
    rw [if_pos (by omega), if_pos (by omega), if_pos (by omega), hb, hdg, Option.bind_some, List.drop_eq_getElem_cons hl, hc', List.foldl_cons]
    have hacc : acc * base + dg c < base ^ (i + 1) := by
      rw [Nat.pow_succ]
      have q1 : acc * base + base = (acc + 1) * base := by rw [Nat.add_mul, Nat.one_mul]
      have q2 : (acc + 1) * base ≤ base ^ i * base := Nat.mul_le_mul_right _ ha
      omega
    have hp := pow_small base hbase (i + 1) (by omega)
    have e0 : (base : Int) * (acc : Int) = ((acc * base : Nat) : Int) := by rw [Int.mul_comm]; simp
    have hle : acc * base ≤ acc * base + dg c := Nat.le_add_right _ _
    have e1 : wrap64 ((i : Int) + 1) = ((i + 1 : Nat) : Int) := by rw [w64 _ (by omega) (by omega)]; simp
    have e2 : wrap64 (wrap64 ((base : Int) * (acc : Int)) + (dg c : Int)) = ((acc * base + dg c : Nat) : Int) := by
      rw [e0]
      generalize acc * base = p at *
      rw [w64 (p : Int) (by omega) (by omega), w64 _ (by omega) (by omega)]
      simp
    rw [e1, e2]
    exact ih (i + 1) (acc * base + dg c) k (by omega) (by omega) hacc
theorem value_f (s : ByteArray) (many base : Nat) (hbase : base = 8 ∨ base = 16) (h0 : 0 < many) (hm : many ≤ 8) (hs : s.size ≤ 4010) (k : Nat) (hk : 20 ≤ k) :
    indentureref06_value.f k s (many : Int) (base : Int) = some (valueS s.data.toList many base) := by
  obtain ⟨k, rfl⟩ : ∃ j, k = j + 1 := ⟨k - 1, by omega⟩
  unfold indentureref06_value.f valueS
  rw [len_list]
  by_cases h : many ≤ s.size
  · rw [if_neg (by omega), if_pos (by omega), if_pos (by omega), if_pos h]
    have en : ((many : Int)).toNat = many := by omega
    rw [en]
    have hsz : (s.extract 0 many).size = many := by simp; omega
    have hsyn := syntax_l0 (s.extract 0 many) base (by omega) many 0 (k + 1) (by omega) (by omega) (by omega)
    unfold indentureref01_Syntax.f
    rw [show ((0 : Nat) : Int) = 0 from rfl] at hsyn
    rw [hsyn, Option.bind_some, hsz, decide_eq_true h0, Bool.and_true, List.drop_zero, extract_list]
    simp only [indentureref06_value.j0]
    cases hd : digs (base : Int) (s.data.toList.take many) with
    | false => simp
    | true =>
      have := value_l0 s many base hbase hm h hs (fun c hc => digs_lt hd c hc) many 0 0 k (by omega) (by omega) (by simp)
      rw [List.drop_zero] at this
      simp only [Bool.not_true, Bool.false_eq_true, if_false, if_true]
      exact this
  · rw [if_pos (by omega), if_neg h]
    simp only [indentureref06_value.j0]
    rfl
theorem l0_fwd (k : Nat) (s : ByteArray) (n : Int) (off : Int) (ho0 : 0 ≤ off) (ho1 : off ≤ 256) (i : Nat) (hi1 : 1 ≤ i) (hi : i ≤ 3) (hn : (i : Int) < n) (hs : i < s.size) :
    indentureref06_letter.l0 (k + 1) s n (lvI s.data.toList off i) (i : Int) = indentureref06_letter.l0 k s n (lvI s.data.toList off (i + 1)) ((i + 1 : Nat) : Int) := by
  simp only [indentureref06_letter.l0]
  have hb := bN_lt s.data.toList i
  have hbd := lvI_bd s.data.toList off ho0 ho1 i hi
  rw [if_pos hn, if_pos (by omega), if_pos (by omega), bt_bN s i hs, w32 (64 * lvI s.data.toList off i) (by omega) (by omega), w32 (bN s.data.toList i : Int) (by omega) (by omega), w32 (64 * lvI s.data.toList off i + (bN s.data.toList i : Int)) (by omega) (by omega), w32 (64 * lvI s.data.toList off i + (bN s.data.toList i : Int) - 128) (by omega) (by omega), w64 _ (by omega) (by omega), ← lvI_step s.data.toList off i hi1]
  rfl
theorem letter_f (s : ByteArray) (hs0 : 0 < s.size) (hs : s.size ≤ 4010) (hz : zL s.data.toList ≠ 0) (k : Nat) (hk : 20 ≤ k) :
    indentureref06_letter.f k s = some ((lvL s.data.toList : Int), false, (zL s.data.toList : Int)) := by
  obtain ⟨k, rfl⟩ : ∃ j, k = j + 6 := ⟨k - 6, by omega⟩
  have hsz := size_f s 0 (k + 3) hs0 hs
  rw [List.drop_zero] at hsz
  have hb0 := bN_lt s.data.toList 0
  have e0 : bt s 0 = (bN s.data.toList 0 : Int) := bt_bN s 0 hs0
  have hsz' : indentureref04_Size.f (k + 6) s 0 = some ((zL s.data.toList : Nat) : Int) := hsz
  have hll := len_list s
  unfold indentureref06_letter.f
  rw [hsz', Option.bind_some, if_pos (by omega), e0, w32 (bN s.data.toList 0 : Int) (by omega) (by omega)]
  unfold lvL lv
  have hlv1 : ∀ off : Int, lvI s.data.toList off 1 = (bN s.data.toList 0 : Int) - off := fun _ => rfl
  have hlv2 : ∀ off : Int, lvI s.data.toList off 2 = 64 * ((bN s.data.toList 0 : Int) - off) + (bN s.data.toList 1 : Int) - 128 := fun _ => rfl
  have hlv3 : ∀ off : Int, lvI s.data.toList off 3 = 64 * (64 * ((bN s.data.toList 0 : Int) - off) + (bN s.data.toList 1 : Int) - 128) + (bN s.data.toList 2 : Int) - 128 := fun _ => rfl
  have hlv4 : ∀ off : Int, lvI s.data.toList off 4 = 64 * (64 * (64 * ((bN s.data.toList 0 : Int) - off) + (bN s.data.toList 1 : Int) - 128) + (bN s.data.toList 2 : Int) - 128) + (bN s.data.toList 3 : Int) - 128 := fun _ => rfl
  have hlend : ∀ (j : Nat) (n x i : Int), ¬ i < n → indentureref06_letter.l0 (j + 1) s n x i = some (x, false, n) := fun j n x i h => by simp only [indentureref06_letter.l0]; rw [if_neg h]
  unfold zL at *
  rcases sizeN_cases s.data.toList.length (bN s.data.toList 0) (bN s.data.toList 1) (bN s.data.toList 2) (bN s.data.toList 3) with ⟨h, h'⟩ | ⟨h, h'⟩ | ⟨h, h'⟩ | ⟨h, h'⟩ | ⟨h, h'⟩
  · rw [h, if_neg (by omega)]
    simp only [indentureref06_letter.j0]
    rw [hlend _ _ _ _ (by omega)]
    rfl
  · rw [h, if_pos (by omega)]
    have er : rd [0, 0, 192, 224, 240] ((2 : Nat) : Int) = 192 := rfl
    simp only [Option.bind_some]
    rw [if_pos (by omega), if_pos (by simp), er, w32 _ (by omega) (by omega), ← hlv1 192]
    have f1 := l0_fwd (k + 4) s ((2 : Nat) : Int) 192 (by omega) (by omega) 1 (by omega) (by omega) (by omega) (by omega)
    show indentureref06_letter.l0 (k + 4 + 1) s ((2 : Nat) : Int) (lvI s.data.toList 192 1) ((1 : Nat) : Int) = _
    rw [f1, hlend _ _ _ _ (by omega), hlv2]
    congr 2
    simp only [Nat.reduceEqDiff, if_false, if_true]
    omega
  · rw [h, if_pos (by omega)]
    have er : rd [0, 0, 192, 224, 240] ((3 : Nat) : Int) = 224 := rfl
    simp only [Option.bind_some]
    rw [if_pos (by omega), if_pos (by simp), er, w32 _ (by omega) (by omega), ← hlv1 224]
    have f1 := l0_fwd (k + 4) s ((3 : Nat) : Int) 224 (by omega) (by omega) 1 (by omega) (by omega) (by omega) (by omega)
    have f2 := l0_fwd (k + 3) s ((3 : Nat) : Int) 224 (by omega) (by omega) 2 (by omega) (by omega) (by omega) (by omega)
    show indentureref06_letter.l0 (k + 4 + 1) s ((3 : Nat) : Int) (lvI s.data.toList 224 1) ((1 : Nat) : Int) = _
    rw [f1, f2, hlend _ _ _ _ (by omega), hlv3]
    congr 2
    simp only [Nat.reduceEqDiff, if_false, if_true]
    omega
  · rw [h, if_pos (by omega)]
    have er : rd [0, 0, 192, 224, 240] ((4 : Nat) : Int) = 240 := rfl
    simp only [Option.bind_some]
    rw [if_pos (by omega), if_pos (by simp), er, w32 _ (by omega) (by omega), ← hlv1 240]
    have f1 := l0_fwd (k + 4) s ((4 : Nat) : Int) 240 (by omega) (by omega) 1 (by omega) (by omega) (by omega) (by omega)
    have f2 := l0_fwd (k + 3) s ((4 : Nat) : Int) 240 (by omega) (by omega) 2 (by omega) (by omega) (by omega) (by omega)
    have f3 := l0_fwd (k + 2) s ((4 : Nat) : Int) 240 (by omega) (by omega) 3 (by omega) (by omega) (by omega) (by omega)
    show indentureref06_letter.l0 (k + 4 + 1) s ((4 : Nat) : Int) (lvI s.data.toList 240 1) ((1 : Nat) : Int) = _
    rw [f1, f2, f3, hlend _ _ _ _ (by omega), hlv4]
    congr 2
    simp only [Nat.reduceEqDiff, if_false]
    omega
  · exact absurd h hz
end Go.Proofs.YtgfdfmgocijdgaaGreatDoor
