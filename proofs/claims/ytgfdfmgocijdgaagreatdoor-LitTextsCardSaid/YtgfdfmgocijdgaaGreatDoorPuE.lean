/- Plain laws, without program or memory: what a text begins with is the same for both. -/
import Derived.Test.YtgfdfmgocijdgaaGreatDoorPuD
import Derived.Test.YtgfdfmgocijdgaaGreatDoorPRx5
namespace Go.Proofs.YtgfdfmgocijdgaaGreatDoor
open Go.RowKit Go.Lib Go.Shelf Go.Proofs.YtgfdfmgocijdgaaGreatDoorW.PrintWords Go.Proofs.YtgfdfmgocijdgaaGreatDoorW.PrintLast Go.Proofs.YtgfdfmgocijdgaaGreatDoorW.PrintMore PLitTexts
def Ys (q : Nat) : List Int := [97, 98, 102, 110, 114, 116, 118, 92, (q : Int)]
def Vs (q : Nat) : List Int := [7, 8, 12, 10, 13, 9, 11, 92, (q : Int)]
theorem one_step (k : Nat) (s : ByteArray) (q C j : Nat) (hj : j < 9) (y v : Int) (hy : rd (Ys q) (j : Int) = y) (hv : rd (Vs q) (j : Int) = v) :
    indentureref06_One.l0 (k + 1) s (q : Int) (C : Int) (Ys q) ((Ys q).length : Int) (j : Int) =
      if (C : Int) = y then some (wrap32 v, true, 2) else indentureref06_One.l0 k s (q : Int) (C : Int) (Ys q) ((Ys q).length : Int) ((j + 1 : Nat) : Int) := by
  have hl : ((Ys q).length : Int) = 9 := rfl
  have e1 : wrap64 ((j : Int) + 1) = ((j + 1 : Nat) : Int) := by rw [w64 _ (by omega) (by omega)]; simp
  simp only [indentureref06_One.l0]
  rw [if_pos (by omega), if_pos (by omega), if_pos (by omega), hy, e1]
  by_cases h : (C : Int) = y
  · rw [if_pos h, if_pos h]
    have hl2 : (((Vs q).length : Nat) : Int) = 9 := rfl
    show ((some (Vs q)).bind fun y308 => if (j : Int) < (y308.length : Int) then some (wrap32 (rd y308 (j : Int)), true, 2) else none) = _
    rw [Option.bind_some, if_pos (by omega), hv]
  · rw [if_neg h, if_neg h]
theorem esc_f (s : ByteArray) (off many base : Nat) (hs : s.size ≤ 4010) (hbase : base = 8 ∨ base = 16) (h0 : 0 < many) (hm : many ≤ 8) (k : Nat) (hk : 20 ≤ k) :
    indentureref06_value.f k (s.extract off s.size) (many : Int) (base : Int) = some (valueS (s.data.toList.drop off) many base) := by
  have := value_f (s.extract off s.size) many base hbase h0 hm (Nat.le_trans (drop_size s off) hs) k hk
  rwa [drop_list] at this
theorem valid_iff (v : Int) (h0 : 0 ≤ v) (h1 : v ≤ 1114111) : (Lib.validRune v = false) ↔ (55296 ≤ v ∧ v ≤ 57343) := by
  unfold Lib.validRune
  simp
  omega
/-- Two hexadecimal digits are less than 256. -/
theorem value_lt (l : List UInt8) (many : Nat) : many ≤ 2 → valueS l many 16 ≤ 255 := by
  intro hm
  unfold valueS
  split
  · split
    · rename_i h1 h2
      have := valD_lt 16 (by omega) 2 (l.take many) (by rw [List.length_take]; omega) (fun c hc => digs_lt h2 c hc)
      omega
    · omega
  · omega
theorem one_j2 (s : ByteArray) (C : Nat) (hs : s.size ≤ 4010) (h2 : 2 ≤ s.size) (k : Nat) (hk : 21 ≤ k) (t : Bool) (ht : t = decide (C = 117 ∨ C = 85)) :
    indentureref06_One.j2 k s (C : Int) t = some (if C = 85 then escS s.data.toList 2 8 16 1114111 else if C = 117 then escS s.data.toList 2 4 16 1114111 else if C = 120 then escS s.data.toList 2 2 16 255 else escS s.data.toList 1 3 8 255) := by
  obtain ⟨k, rfl⟩ : ∃ j, k = j + 1 := ⟨k - 1, by omega⟩
  simp only [indentureref06_One.j2]
  have big : ∀ many : Nat, 0 < many → many ≤ 8 → ∀ (m : Int), m = many →
      ((indentureref06_value.f k (s.extract 2 s.size) (many : Int) ((16 : Nat) : Int)).bind fun t312 => if t312 < 0 then some ((0 : Int), false, (0 : Int)) else (if t312 > 1114111 then some (0, false, 0) else (if t312 ≥ 55296 then (if t312 ≤ 57343 then some (0, false, 0) else some (wrap32 t312, false, 2 + m)) else some (wrap32 t312, false, 2 + m)))) =
        some (escS s.data.toList 2 many 16 1114111) := by
    intro many hm0 hm8 m hm
    rw [esc_f s 2 many 16 hs (.inr rfl) hm0 hm8 k (by omega), Option.bind_some]
    unfold escS
    generalize valueS (s.data.toList.drop 2) many 16 = v
    by_cases k1 : v < 0
    · rw [if_pos k1, if_pos k1]
    · rw [if_neg k1, if_neg k1]
      by_cases k2 : v > 1114111
      · rw [if_pos k2, if_pos (by omega)]
      · rw [if_neg k2]
        (try rw [if_neg (show ¬ ((1114111 : Nat) : Int) < v by omega)])
        rw [w32 v (by omega) (by omega)]
        have hv := valid_iff v (by omega) (by omega)
        subst hm
        by_cases k3 : 55296 ≤ v
        · rw [if_pos (by omega)]
          by_cases k4 : v ≤ 57343
          · rw [if_pos k4, if_pos ⟨by omega, hv.2 ⟨k3, k4⟩⟩]
          · rw [if_neg k4, if_neg (fun h => k4 (hv.1 h.2).2)]; rfl
        · rw [if_neg (by omega), if_neg (fun h => k3 (hv.1 h.2).1)]; rfl
  by_cases c1 : C = 85
  · rw [if_pos c1]
    have ht' : t = true := by rw [ht]; simp [c1]
    rw [if_pos ht', if_pos (by omega), if_pos (by omega)]
    exact big 8 (by omega) (by omega) 8 rfl
  · rw [if_neg c1]
    by_cases c2 : C = 117
    · rw [if_pos c2]
      have ht' : t = true := by rw [ht]; simp [c2]
      rw [if_pos ht', if_neg (by omega), if_pos (by omega)]
      exact big 4 (by omega) (by omega) 4 rfl
    · rw [if_neg c2]
      have ht' : ¬ t = true := by rw [ht]; simp [c1, c2]
      rw [if_neg ht']
      by_cases c3 : C = 120
      · rw [if_pos c3, if_pos (by omega), if_pos (by omega)]
        have hv := esc_f s 2 2 16 hs (.inr rfl) (by omega) (by omega) k (by omega)
        have hv' : indentureref06_value.f k (s.extract 2 s.size) 2 16 = some (valueS (s.data.toList.drop 2) 2 16) := hv
        rw [hv', Option.bind_some]
        have hlt := value_lt (s.data.toList.drop 2) 2
        unfold escS
        generalize valueS (s.data.toList.drop 2) 2 16 = v at *
        by_cases k1 : v < 0
        · rw [if_pos k1, if_pos k1]
        · rw [if_neg k1, if_neg k1, if_neg (by have := hlt (by omega); omega), if_neg (fun h => absurd h.1 (by omega)), w32 v (by omega) (by have := hlt (by omega); omega)]
          rfl
      · rw [if_neg c3, if_neg (by omega), if_pos (by omega)]
        have hv := esc_f s 1 3 8 hs (.inl rfl) (by omega) (by omega) k (by omega)
        have hv' : indentureref06_value.f k (s.extract 1 s.size) 3 8 = some (valueS (s.data.toList.drop 1) 3 8) := hv
        rw [hv', Option.bind_some]
        unfold escS
        generalize valueS (s.data.toList.drop 1) 3 8 = v
        by_cases k1 : v < 0
        · rw [if_pos k1, if_pos k1]
        · rw [if_neg k1, if_neg k1]
          by_cases k2 : v > 255
          · rw [if_pos k2, if_pos (by omega)]
          · rw [if_neg k2, if_neg (by omega), if_neg (fun h => absurd h.1 (by omega)), w32 v (by omega) (by omega)]
            rfl
end Go.Proofs.YtgfdfmgocijdgaaGreatDoor
