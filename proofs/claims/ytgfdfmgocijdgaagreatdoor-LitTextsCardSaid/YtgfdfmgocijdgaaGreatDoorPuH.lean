/- Plain laws, without program or memory: texts between bytes 96. -/
import Derived.Test.YtgfdfmgocijdgaaGreatDoorPuG
import Derived.Lib.CountLaws
namespace Go.Proofs.YtgfdfmgocijdgaaGreatDoor
open Go.RowKit Go.Lib Go.Shelf Go.Proofs.YtgfdfmgocijdgaaGreatDoorW.PrintWords Go.Proofs.YtgfdfmgocijdgaaGreatDoorW.PrintLast Go.Proofs.YtgfdfmgocijdgaaGreatDoorW.PrintMore PLitTexts
theorem index_byte (c : UInt8) : ∀ l : List UInt8, (Lib.index l [c] = -1 ∧ c ∉ l) ∨ ∃ a r, l = a ++ c :: r ∧ c ∉ a ∧ Lib.index l [c] = (a.length : Int)
  | [] => .inl ⟨rfl, by simp⟩
  | b :: l => by
    by_cases h : c = b
    · subst h
      exact .inr ⟨[], l, rfl, by simp, by simp [Lib.index, List.isPrefixOf]⟩
    · have hp : ([c].isPrefixOf (b :: l)) = false := by simp [List.isPrefixOf, h]
      rcases index_byte c l with ⟨h1, h2⟩ | ⟨a, r, h1, h2, h3⟩
      · refine .inl ⟨?_, by simp [h, h2]⟩
        unfold Lib.index
        rw [hp, h1]; rfl
      · refine .inr ⟨b :: a, r, by rw [h1]; rfl, by simp [h, h2], ?_⟩
        unfold Lib.index
        rw [hp, h3, if_neg (by simp), if_neg (by rw [beq_iff_eq]; omega)]
        simp
theorem drop_app (a r : List UInt8) (c : UInt8) : (a ++ c :: r).drop (a.length + 1) = r := by
  rw [List.drop_append, List.drop_eq_nil_of_le (by omega)]
  simp
theorem replaceK_filter (c : UInt8) : ∀ (n : Nat) (l : List UInt8), Lib.count l [c] = n → Lib.replaceK [c] [] n l = l.filter (· != c)
  | 0, l, h => by
    rcases index_byte c l with ⟨_, h2⟩ | ⟨a, r, h1, h2, h3⟩
    · rw [List.filter_eq_self.2 fun x hx => by simp; exact fun e => h2 (e ▸ hx)]; rfl
    · have := count_hit (s := l) (sub := [c]) (by simp) h3
      omega
  | n + 1, l, h => by
    rcases index_byte c l with ⟨h1, h2⟩ | ⟨a, r, h1, h2, h3⟩
    · rw [count_miss h1] at h; omega
    · have hc := count_hit (s := l) (sub := [c]) (by simp) h3
      have hd : l.drop (a.length + [c].length) = r := by rw [h1]; exact drop_app a r c
      rw [hd] at hc
      have ih := replaceK_filter c n r (by omega)
      have hfa : a.filter (· != c) = a := List.filter_eq_self.2 fun x hx => by simp; exact fun e => h2 (e ▸ hx)
      have hta : l.take a.length = a := by rw [h1]; exact List.take_left' rfl
      rw [replaceK_hit [c] [] n l a.length h3, hd, ih, hta, h1, List.filter_append, hfa]
      simp
theorem replaceAll_filter (l : List UInt8) : Lib.replaceAll l [13] [] = l.filter (· != 13) := by
  unfold Lib.replaceAll Lib.replace Lib.replaceNum
  rw [if_neg (by decide), if_pos (.inl (by omega))]
  exact replaceK_filter 13 _ l rfl
theorem cut_byte (c : UInt8) (l : List UInt8) : (c ∉ l ∧ Lib.cut l [c] = (l, [], false)) ∨ ∃ a r, l = a ++ c :: r ∧ c ∉ a ∧ Lib.cut l [c] = (a, r, true) := by
  unfold Lib.cut
  rcases index_byte c l with ⟨h1, h2⟩ | ⟨a, r, h1, h2, h3⟩
  · refine .inl ⟨h2, ?_⟩
    rw [h1, if_neg (by omega)]
  · refine .inr ⟨a, r, h1, h2, ?_⟩
    have hd : l.drop (a.length + [c].length) = r := by rw [h1]; exact drop_app a r c
    rw [h3, if_pos (by omega), Int.toNat_natCast, hd]
    have ht : l.take a.length = a := by rw [h1]; exact List.take_left' rfl
    rw [ht]
/-- The reference's loop over a text between bytes 96. -/
theorem raw_l0 (s : ByteArray) (hs : s.size ≤ 4010) (h1 : 1 ≤ s.size) : ∀ (d i k : Nat) (x : List Int), s.size = i + 1 + d → d + 2 ≤ k → x.length + d ≤ 10000 →
    indentureref06_raw.l0 k s x (i : Int) = some (
      if (96 : UInt8) ∈ (s.data.toList.drop i).take d then (⟨#[]⟩, false)
      else if s.size < 2 then (⟨#[]⟩, false)
      else if bN s.data.toList (s.size - 1) = 96 then (strOfNums (x ++ (((s.data.toList.drop i).take d).filter (· != 13)).map fun c => (c.toNat : Int)), true)
      else (⟨#[]⟩, false)) := by
  intro d
  induction d with
  | zero =>
    intro i k x h hk hx
    obtain ⟨k, rfl⟩ : ∃ j, k = j + 1 := ⟨k - 1, by omega⟩
    have e1 : wrap64 ((s.size : Int) - 1) = ((s.size - 1 : Nat) : Int) := by rw [w64 _ (by omega) (by omega)]; omega
    simp only [indentureref06_raw.l0]
    rw [e1, if_neg (by omega), if_neg (show ¬ (96 : UInt8) ∈ (s.data.toList.drop i).take 0 by simp)]
    by_cases h2 : s.size < 2
    · rw [if_pos (by omega), if_pos h2]
    · rw [if_neg (by omega), if_neg h2, if_pos (by omega), if_pos (by omega), bt_bN s (s.size - 1) (by omega)]
      by_cases h3 : bN s.data.toList (s.size - 1) = 96
      · rw [if_pos (by omega), if_pos h3]; simp
      · rw [if_neg (by omega), if_neg h3]
  | succ d ih =>
    intro i k x h hk hx
    obtain ⟨k, rfl⟩ : ∃ j, k = j + 1 := ⟨k - 1, by omega⟩
    have e1 : wrap64 ((s.size : Int) - 1) = ((s.size - 1 : Nat) : Int) := by rw [w64 _ (by omega) (by omega)]; omega
    have e2 : wrap64 ((i : Int) + 1) = ((i + 1 : Nat) : Int) := by rw [w64 _ (by omega) (by omega)]; simp
    have hi : i < s.size := by omega
    obtain ⟨c, hc, hb⟩ := bt_get s i hi
    have hdrop : s.data.toList.drop i = c :: s.data.toList.drop (i + 1) := by
      have hl : i < s.data.toList.length := by rw [len_list]; exact hi
      rw [List.drop_eq_getElem_cons hl]
      rw [List.getElem?_eq_getElem hl] at hc
      rw [Option.some.inj hc]
    have hn96 : (c.toNat : Int) = 96 ↔ c = 96 := ⟨fun e => UInt8.toNat_inj.1 (by show c.toNat = 96; omega), fun e => by rw [e]; rfl⟩
    have hn13 : (c.toNat : Int) = 13 ↔ c = 13 := ⟨fun e => UInt8.toNat_inj.1 (by show c.toNat = 13; omega), fun e => by rw [e]; rfl⟩
    simp only [indentureref06_raw.l0]
    rw [e1, e2, if_pos (by omega), if_pos (by omega), if_pos (by omega), hb, hdrop, List.take_succ_cons]
    by_cases h96 : c = 96
    · rw [if_pos (hn96.2 h96), if_pos (by rw [h96]; simp)]
    · rw [if_neg (fun e => h96 (hn96.1 e))]
      have hm : (96 : UInt8) ∈ (c :: (s.data.toList.drop (i + 1)).take d) ↔ (96 : UInt8) ∈ (s.data.toList.drop (i + 1)).take d := by
        rw [List.mem_cons]
        exact ⟨fun e => e.resolve_left (fun e => h96 e.symm), .inr⟩
      by_cases h13 : c = 13
      · rw [if_pos (hn13.2 h13), ih (i + 1) k x (by omega) (by omega) (by omega), List.filter_cons_of_neg (by simp [h13])]
        simp only [hm]
      · rw [if_neg (fun e => h13 (hn13.1 e)), if_pos (by omega), ih (i + 1) k _ (by omega) (by omega) (by simp; omega), List.filter_cons_of_pos (by simpa using h13)]
        simp only [hm, List.map_cons, List.append_assoc, List.cons_append, List.nil_append]
theorem str_bytes (l : List UInt8) : strOfNums (l.map fun c => (c.toNat : Int)) = ⟨l.toArray⟩ := by
  unfold strOfNums
  rw [List.map_map]
  congr 2
  have : ((fun n : Int => UInt8.ofNat n.toNat) ∘ fun c : UInt8 => (c.toNat : Int)) = id := by
    funext c
    simp
  rw [this, List.map_id]
/-- A text that begins with a byte 96. -/
def rawS (l : List UInt8) : ByteArray × Int :=
  if (Lib.cut (l.drop 1) [96]).2.2 = false then (⟨#[]⟩, 5)
  else if (Lib.cut (l.drop 1) [96]).2.1 ≠ [] then (⟨#[]⟩, 5)
  else (⟨(Lib.replaceAll (Lib.cut (l.drop 1) [96]).1 [13] []).toArray⟩, 0)
theorem last_of (c : UInt8) (t : List UInt8) (n : Nat) (h : (c :: t).length = n + 1) : bN (c :: t) n = (((c :: t).getLast (by simp)).toNat) := by
  unfold bN
  rw [List.getLast_eq_getElem, List.getD_eq_getElem?_getD, List.getElem?_eq_getElem (by omega), Option.getD_some]
  congr 2
  omega
theorem raw_f (s : ByteArray) (hs : s.size ≤ 4010) (h1 : 1 ≤ s.size) (k : Nat) (hk : s.size + 2 ≤ k) : ∃ y has, indentureref06_raw.f k s = some (y, has) ∧ rawS s.data.toList = if has = true then (y, 0) else (⟨#[]⟩, 5) := by
  have hl := len_list s
  unfold indentureref06_raw.f rawS
  by_cases h2 : s.size < 2
  · -- a byte 96 alone
    obtain ⟨k, rfl⟩ : ∃ j, k = j + 1 := ⟨k - 1, by omega⟩
    refine ⟨⟨#[]⟩, false, ?_, ?_⟩
    · simp only [indentureref06_raw.l0]
      have e1 : wrap64 ((s.size : Int) - 1) = ((s.size - 1 : Nat) : Int) := by rw [w64 _ (by omega) (by omega)]; omega
      rw [e1, if_neg (by omega), if_pos (by omega)]
    · rw [List.drop_eq_nil_of_le (by omega)]; rfl
  have hr := raw_l0 s hs h1 (s.size - 2) 1 k [] (by omega) (by omega) (by simp; omega)
  have hr' : indentureref06_raw.l0 k s [] 1 = _ := hr
  rw [hr', if_neg h2]
  -- what is behind the first byte ends with a byte
  have hne : s.data.toList.drop 1 ≠ [] := fun e => by
    have := congrArg List.length e
    rw [List.length_drop, hl] at this
    simp at this; omega
  obtain ⟨m, z, hmz⟩ : ∃ m z, s.data.toList.drop 1 = m ++ [z] := ⟨_, _, (List.dropLast_concat_getLast hne).symm⟩
  have hml : m.length = s.size - 2 := by
    have := congrArg List.length hmz
    rw [List.length_drop, hl] at this
    simp at this; omega
  have hz : bN s.data.toList (s.size - 1) = z.toNat := by
    have : bN (s.data.toList.drop 1) (s.size - 2) = bN s.data.toList (s.size - 1) := by rw [bN_drop]; congr 1; omega
    rw [← this, hmz]
    unfold bN
    rw [List.getD_eq_getElem?_getD, List.getElem?_append_right (by omega), hml]
    simp
  rw [hz, hmz, List.take_left' hml]
  have hz96 : z.toNat = 96 ↔ z = 96 := ⟨fun e => UInt8.toNat_inj.1 e, fun e => by rw [e]; rfl⟩
  rcases cut_byte 96 (m ++ [z]) with ⟨h96, hcut⟩ | ⟨a, r, har, ha, hcut⟩
  · rw [hcut]
    refine ⟨⟨#[]⟩, false, ?_, rfl⟩
    have hm : (96 : UInt8) ∉ m := fun e => h96 (by simp [e])
    have hzn : z ≠ 96 := fun e => h96 (by simp [e])
    rw [if_neg hm, if_neg (fun e => hzn (hz96.1 e))]
  · rw [hcut]
    rcases List.eq_nil_or_concat r with rfl | ⟨r', z', hr'⟩
    · -- the first one is the last byte
      have hh : m = a ∧ z = 96 := by
        have := List.append_inj' har rfl
        exact ⟨this.1, by simpa using this.2⟩
      obtain ⟨rfl, rfl⟩ := hh
      refine ⟨strOfNums ([] ++ ((m.filter (· != 13)).map fun c => (c.toNat : Int))), true, ?_, ?_⟩
      · rw [if_neg ha, if_pos (by decide)]
      · rw [List.nil_append, str_bytes, replaceAll_filter]; rfl
    · -- one stands ahead of the last byte
      rw [List.concat_eq_append] at hr'
      subst hr'
      have hh : m = a ++ 96 :: r' ∧ z = z' := by
        have e : a ++ 96 :: (r' ++ [z']) = (a ++ 96 :: r') ++ [z'] := by simp
        rw [e] at har
        have := List.append_inj' har rfl
        exact ⟨this.1, by simpa using this.2⟩
      refine ⟨⟨#[]⟩, false, ?_, ?_⟩
      · rw [if_pos (by rw [hh.1]; simp)]
      · rw [if_neg (by simp), if_pos (by simp)]; rfl
end Go.Proofs.YtgfdfmgocijdgaaGreatDoor
