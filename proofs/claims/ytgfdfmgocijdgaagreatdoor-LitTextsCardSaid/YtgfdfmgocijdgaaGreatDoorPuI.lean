/- Plain laws, without program or memory: texts between quotes; all that LitTexts wants. -/
import Derived.Test.YtgfdfmgocijdgaaGreatDoorPuH
namespace Go.Proofs.YtgfdfmgocijdgaaGreatDoor
open Go.RowKit Go.Lib Go.Shelf Go.Proofs.YtgfdfmgocijdgaaGreatDoorW.PrintWords Go.Proofs.YtgfdfmgocijdgaaGreatDoorW.PrintLast Go.Proofs.YtgfdfmgocijdgaaGreatDoorW.PrintMore PLitTexts
/-- A number that may be a letter's. -/
def RuneOk (r : Int) : Prop := 0 ≤ r ∧ r ≤ 1114111 ∧ ¬ (55296 ≤ r ∧ r ≤ 57343)
theorem lvL_ok (l : List UInt8) (hz : zL l ≠ 0) : RuneOk (lvL l : Int) := by
  unfold RuneOk lvL lv
  unfold zL at *
  rcases sizeN_cases l.length (bN l 0) (bN l 1) (bN l 2) (bN l 3) with ⟨h, h'⟩ | ⟨h, h'⟩ | ⟨h, h'⟩ | ⟨h, h'⟩ | ⟨h, h'⟩
  · rw [h]; simp only [if_true]; omega
  · rw [h]; simp only [Nat.reduceEqDiff, if_false, if_true]; omega
  · rw [h]; simp only [Nat.reduceEqDiff, if_false, if_true]; omega
  · rw [h]; simp only [Nat.reduceEqDiff, if_false]; omega
  · exact absurd h hz
theorem esc_ok (l : List UInt8) (off many base most : Nat) (hm : most = 255 ∨ most = 1114111) (hn : (escS l off many base most).2.2 ≠ 0) (hb : (escS l off many base most).2.1 = false) : RuneOk (escS l off many base most).1 := by
  unfold escS at *
  by_cases h1 : valueS (l.drop off) many base < 0
  · rw [if_pos h1] at hn; exact absurd rfl hn
  rw [if_neg h1] at *
  by_cases h2 : (most : Int) < valueS (l.drop off) many base
  · rw [if_pos h2] at hn; exact absurd rfl hn
  rw [if_neg h2] at *
  by_cases h3 : 255 < most ∧ Lib.validRune (valueS (l.drop off) many base) = false
  · rw [if_pos h3] at hn; exact absurd rfl hn
  rw [if_neg h3] at *
  have hb' : decide (most = 255) = false := hb
  rw [decide_eq_false_iff_not] at hb'
  have hv := valid_iff (valueS (l.drop off) many base) (by omega) (by omega)
  exact ⟨by omega, by omega, fun h => h3 ⟨by omega, hv.2 h⟩⟩
theorem one_ok {l : List UInt8} (q : Nat) (h : GoodL l) (hn : (oneS l q).2.2 ≠ 0) (hb : (oneS l q).2.1 = false) : RuneOk (oneS l q).1 := by
  unfold oneS at *
  by_cases h0 : l.length = 0
  · rw [if_pos h0] at hn; exact absurd rfl hn
  rw [if_neg h0] at *
  by_cases h1 : bN l 0 = q
  · rw [if_pos h1] at hn; exact absurd rfl hn
  rw [if_neg h1] at *
  by_cases h2 : bN l 0 = 10
  · rw [if_pos h2] at hn; exact absurd rfl hn
  rw [if_neg h2] at *
  by_cases h3 : bN l 0 ≠ 92
  · rw [if_pos h3] at *
    have hz := h.z.resolve_left h0
    have hsz : (⟨l.toArray⟩ : ByteArray).size ≠ 0 := by show l.toArray.size ≠ 0; simpa using h0
    have e := decGo_eq ⟨l.toArray⟩ hsz hz
    rw [e]
    exact lvL_ok l hz
  rw [if_neg h3] at *
  by_cases h4 : l.length < 2
  · rw [if_pos h4] at hn; exact absurd rfl hn
  rw [if_neg h4] at *
  by_cases h5 : (plainT (bN l 1)).2 = true
  · rw [if_pos h5] at hb; cases hb
  rw [if_neg h5] at *
  by_cases h6 : bN l 1 = q
  · rw [if_pos h6] at hb; cases hb
  rw [if_neg h6] at *
  by_cases h7 : bN l 1 = 85
  · rw [if_pos h7] at *
    exact esc_ok l 2 8 16 1114111 (.inr rfl) hn hb
  rw [if_neg h7] at *
  by_cases h8 : bN l 1 = 117
  · rw [if_pos h8] at *
    exact esc_ok l 2 4 16 1114111 (.inr rfl) hn hb
  rw [if_neg h8] at *
  by_cases h9 : bN l 1 = 120
  · rw [if_pos h9] at *
    exact esc_ok l 2 2 16 255 (.inl rfl) hn hb
  rw [if_neg h9] at *
  exact esc_ok l 1 3 8 255 (.inl rfl) hn hb
theorem bytes_f (r : Int) (h : RuneOk r) : indentureref06_Bytes.f r = some (encodeRuneZ r) := by
  obtain ⟨h0, h1, h2⟩ := h
  unfold indentureref06_Bytes.f encodeRuneZ
  by_cases c1 : r < 128
  · rw [if_pos c1, if_pos ⟨h0, by omega⟩, Int.emod_eq_of_lt h0 (by omega)]
  have t64 : Int.tdiv r 64 = r / 64 := Int.tdiv_eq_ediv_of_nonneg h0
  have m64 : Int.tmod r 64 = r % 64 := Int.tmod_eq_emod_of_nonneg h0
  have t4096 : Int.tdiv r 4096 = r / 4096 := Int.tdiv_eq_ediv_of_nonneg h0
  have t26 : Int.tdiv r 262144 = r / 262144 := Int.tdiv_eq_ediv_of_nonneg h0
  rw [if_neg c1, if_neg (show ¬ (0 ≤ r ∧ r ≤ 127) by omega), t64, m64, t4096, t26]
  rw [w32 (r / 64) (by omega) (by omega), w32 (r / 4096) (by omega) (by omega), w32 (r / 262144) (by omega) (by omega)]
  have n64 : Int.tmod (r / 64) 64 = r / 64 % 64 := Int.tmod_eq_emod_of_nonneg (by omega)
  have n4096 : Int.tmod (r / 4096) 64 = r / 4096 % 64 := Int.tmod_eq_emod_of_nonneg (by omega)
  rw [n64, n4096]
  by_cases c2 : r < 2048
  · rw [if_pos c2, if_pos ⟨by omega, by omega⟩, w32 (192 + r / 64) (by omega) (by omega), w32 (128 + r % 64) (by omega) (by omega), Int.emod_eq_of_lt (by omega) (by omega), Int.emod_eq_of_lt (by omega) (by omega)]
  rw [if_neg c2, if_neg (show ¬ (128 ≤ r ∧ r ≤ 2047) by omega)]
  by_cases c3 : r < 65536
  · rw [if_pos c3, if_pos (by omega), w32 (224 + r / 4096) (by omega) (by omega), w32 (128 + r / 64 % 64) (by omega) (by omega), w32 (128 + r % 64) (by omega) (by omega), Int.emod_eq_of_lt (a := 224 + r / 4096) (by omega) (by omega), Int.emod_eq_of_lt (a := 128 + r / 64 % 64) (by omega) (by omega), Int.emod_eq_of_lt (a := 128 + r % 64) (by omega) (by omega)]
  rw [if_neg c3, if_neg (show ¬ ((2048 ≤ r ∧ r < 55296) ∨ (57343 < r ∧ r ≤ 65535)) by omega), if_pos ⟨by omega, h1⟩, w32 (240 + r / 262144) (by omega) (by omega), w32 (128 + r / 4096 % 64) (by omega) (by omega), w32 (128 + r / 64 % 64) (by omega) (by omega), w32 (128 + r % 64) (by omega) (by omega), Int.emod_eq_of_lt (a := 240 + r / 262144) (by omega) (by omega), Int.emod_eq_of_lt (a := 128 + r / 4096 % 64) (by omega) (by omega), Int.emod_eq_of_lt (a := 128 + r / 64 % 64) (by omega) (by omega), Int.emod_eq_of_lt (a := 128 + r % 64) (by omega) (by omega)]
def refRes : Option (List Int) → ByteArray × Bool
  | some out => (strOfNums out, true)
  | none => (⟨#[]⟩, false)
theorem text_l0 : ∀ (K : Nat) (x : ByteArray) (out : List Int) (k : Nat), x.size < K → x.size ≤ 4010 → GoodL x.data.toList → out.length + 4 * x.size ≤ 20000 → K + 50 ≤ k →
    indentureref06_Text.l0 k x out = some (refRes (txS K x.data.toList out)) := by
  intro K
  induction K with
  | zero => intro x out k h; omega
  | succ K ih =>
    intro x out k hK hx hg ho hk
    obtain ⟨k, rfl⟩ : ∃ j, k = j + 1 := ⟨k - 1, by omega⟩
    have h1 := one_f x 34 (.inr rfl) hx (by have := hg.z; rwa [len_list] at this) k (by omega)
    have h1' : indentureref06_One.f k x 34 = some (oneS x.data.toList 34) := h1
    simp only [indentureref06_Text.l0, txS]
    rw [Lib.toList_data, h1', Option.bind_some]
    by_cases h34 : x.data.toList = [34]
    · rw [if_pos h34, if_pos h34]; rfl
    rw [if_neg h34, if_neg h34]
    have hgo := one_good (l := x.data.toList) 34 (.inr rfl) hg
    have hok := one_ok (l := x.data.toList) 34 hg
    obtain ⟨m, hm, hml⟩ := one_le x.data.toList 34
    rw [len_list] at hml
    generalize oneS x.data.toList 34 = o at *
    obtain ⟨r, b, n⟩ := o
    simp only at hm hgo hok ⊢
    subst hm
    by_cases hn : (m : Int) = 0
    · rw [if_pos hn, if_pos hn]; rfl
    rw [if_neg hn, if_neg hn]
    rw [Int.toNat_natCast] at hgo ⊢
    have hsz : (x.extract m x.size).size = x.size - m := by simp
    have hgd := hgo hn
    rw [← drop_list] at hgd
    cases b with
    | true =>
      rw [if_pos rfl, if_pos rfl, if_pos (by omega), if_pos (by omega), if_pos (by omega), ← drop_list x m]
      exact ih (x.extract m x.size) _ k (by omega) (by omega) hgd (by simp; omega) (by omega)
    | false =>
      have hl := enc_len r
      rw [if_neg (by simp), if_neg (by simp), bytes_f r (hok hn rfl), Option.bind_some, if_pos (by omega), if_pos (by omega), if_pos (by omega), ← drop_list x m]
      exact ih (x.extract m x.size) _ k (by omega) (by omega) hgd (by simp; omega) (by omega)
theorem text_f (s : ByteArray) (hs : s.size ≤ 4010) (hc : chkE s = 0) : ∃ k y has, indentureref06_Text.f k s = some (y, has) ∧ textS s = if has = true then (y, 0) else (⟨#[]⟩, 5) := by
  have hg := good_of_chk s hc
  have hll := len_list s
  unfold textS indentureref06_Text.f
  rw [if_neg (fun h => h hc)]
  by_cases h0 : s.size = 0
  · have hp : ¬ Lib.hasPrefix s.data.toList [96] = true := by
      rw [hp_one]
      intro h
      cases hl : s.data.toList with
      | nil => rw [hl] at h; cases h
      | cons a t => rw [hl] at hll; simp at hll; omega
    refine ⟨3, ⟨#[]⟩, false, ?_, ?_⟩
    · rw [if_neg (by omega)]
      simp only [indentureref06_Text.j0, indentureref06_Text.j1]
      rw [if_neg (by simp), if_pos (by omega), if_pos trivial]
    · rw [if_neg hp, if_pos (by omega)]; rfl
  have e0 : bt s 0 = (bN s.data.toList 0 : Int) := bt_bN s 0 (by omega)
  have hp : Lib.hasPrefix s.data.toList [96] = true ↔ bN s.data.toList 0 = 96 := by
    rw [hp_one]
    cases hl : s.data.toList with
    | nil => rw [hl] at hll; simp at hll; omega
    | cons a t =>
      simp only [List.head?_cons, Option.some.injEq]
      exact ⟨fun e => by rw [e]; rfl, fun e => UInt8.toNat_inj.1 e⟩
  by_cases h96 : bN s.data.toList 0 = 96
  · obtain ⟨y, has, hy, hr⟩ := raw_f s hs (by omega) (s.size + 60) (by omega)
    refine ⟨s.size + 61, y, has, ?_, ?_⟩
    · rw [if_pos (by omega), if_pos (by omega), e0]
      simp only [indentureref06_Text.j0]
      rw [if_pos (by rw [beq_iff_eq]; omega), hy]; rfl
    · rw [if_pos (hp.2 h96)]
      have ht : Lib.trimPrefix s.data.toList [96] = s.data.toList.drop 1 := by unfold Lib.trimPrefix; rw [if_pos (hp.2 h96)]; rfl
      rw [ht]
      exact hr
  rw [if_neg (fun h => h96 (hp.1 h))]
  by_cases h2 : s.size < 2
  · refine ⟨3, ⟨#[]⟩, false, ?_, ?_⟩
    · rw [if_pos (by omega), if_pos (by omega), e0]
      simp only [indentureref06_Text.j0, indentureref06_Text.j1]
      rw [if_neg (by rw [beq_iff_eq]; omega), if_pos (by omega), if_pos trivial]
    · rw [if_pos h2]; rfl
  rw [if_neg h2]
  by_cases h34 : bN s.data.toList 0 = 34
  · rw [if_neg (fun h => h h34)]
    have hsz : (s.extract 1 s.size).size = s.size - 1 := by simp
    have hgt := hg.tail (by omega) (by omega)
    rw [← drop_list] at hgt ⊢
    have ht := text_l0 s.size (s.extract 1 s.size) [] (s.size + 60) (by omega) (by omega) hgt (by simp; omega) (by omega)
    refine ⟨s.size + 62, (refRes (txS s.size (s.extract 1 s.size).data.toList [])).1, (refRes (txS s.size (s.extract 1 s.size).data.toList [])).2, ?_, ?_⟩
    · rw [if_pos (by omega), if_pos (by omega), e0]
      simp only [indentureref06_Text.j0, indentureref06_Text.j1]
      rw [if_neg (by rw [beq_iff_eq]; omega), if_neg (by omega), if_pos (by omega), if_neg (by rw [bne_iff_ne]; omega), if_pos (by omega), ht]
    · cases txS s.size (s.extract 1 s.size).data.toList [] with
      | none => rfl
      | some o => rfl
  · rw [if_pos h34]
    refine ⟨3, ⟨#[]⟩, false, ?_, rfl⟩
    rw [if_pos (by omega), if_pos (by omega), e0]
    simp only [indentureref06_Text.j0, indentureref06_Text.j1]
    rw [if_neg (by rw [beq_iff_eq]; omega), if_neg (by omega), if_pos (by omega), if_pos (by rw [bne_iff_ne]; omega)]
theorem pure_lit (s : ByteArray) (hs : s.size ≤ 4010) : PureLit s := ⟨bad_f s hs, rune_f s hs, text_f s hs⟩
end Go.Proofs.YtgfdfmgocijdgaaGreatDoor
