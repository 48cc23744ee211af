/- Plain laws, without program or memory: what is spoilt is the same for both; letters are the same. -/
import Derived.Test.YtgfdfmgocijdgaaGreatDoorPuA
import Derived.Test.YtgfdfmgocijdgaaGreatDoorPRx3
namespace Go.Proofs.YtgfdfmgocijdgaaGreatDoor
open Go.RowKit Go.Lib Go.Shelf Go.Proofs.YtgfdfmgocijdgaaGreatDoorW.PrintWords Go.Proofs.YtgfdfmgocijdgaaGreatDoorW.PrintLast Go.Proofs.YtgfdfmgocijdgaaGreatDoorW.PrintMore PLitTexts
/-- A letter's number. -/
def lv (z b0 b1 b2 b3 : Nat) : Nat :=
  if z = 1 then b0 else if z = 2 then (b0 - 192) * 64 + (b1 - 128) else if z = 3 then (b0 - 224) * 4096 + (b1 - 128) * 64 + (b2 - 128) else (b0 - 240) * 262144 + (b1 - 128) * 4096 + (b2 - 128) * 64 + (b3 - 128)
theorem sizeN_cases (n b0 b1 b2 b3 : Nat) :
    (sizeN n b0 b1 b2 b3 = 1 ∧ b0 < 128) ∨
    (sizeN n b0 b1 b2 b3 = 2 ∧ 194 ≤ b0 ∧ b0 ≤ 223 ∧ (1 < n ∧ 128 ≤ b1 ∧ b1 ≤ 191)) ∨
    (sizeN n b0 b1 b2 b3 = 3 ∧ 224 ≤ b0 ∧ b0 ≤ 239 ∧ (1 < n ∧ 128 ≤ b1 ∧ b1 ≤ 191) ∧ (2 < n ∧ 128 ≤ b2 ∧ b2 ≤ 191) ∧ (b0 = 224 → 160 ≤ b1) ∧ (b0 = 237 → b1 ≤ 159)) ∨
    (sizeN n b0 b1 b2 b3 = 4 ∧ 240 ≤ b0 ∧ b0 ≤ 244 ∧ (1 < n ∧ 128 ≤ b1 ∧ b1 ≤ 191) ∧ (2 < n ∧ 128 ≤ b2 ∧ b2 ≤ 191) ∧ (3 < n ∧ 128 ≤ b3 ∧ b3 ≤ 191) ∧ (b0 = 240 → 144 ≤ b1) ∧ (b0 = 244 → b1 ≤ 143)) ∨
    (sizeN n b0 b1 b2 b3 = 0 ∧ 128 ≤ b0 ∧ ¬ ((194 ≤ b0 ∧ b0 ≤ 223) ∧ (1 < n ∧ 128 ≤ b1 ∧ b1 ≤ 191)) ∧
      ¬ ((224 ≤ b0 ∧ b0 ≤ 239) ∧ (1 < n ∧ 128 ≤ b1 ∧ b1 ≤ 191) ∧ (2 < n ∧ 128 ≤ b2 ∧ b2 ≤ 191) ∧ (b0 = 224 → 160 ≤ b1) ∧ (b0 = 237 → b1 ≤ 159)) ∧
      ¬ ((240 ≤ b0 ∧ b0 ≤ 244) ∧ (1 < n ∧ 128 ≤ b1 ∧ b1 ≤ 191) ∧ (2 < n ∧ 128 ≤ b2 ∧ b2 ≤ 191) ∧ (3 < n ∧ 128 ≤ b3 ∧ b3 ≤ 191) ∧ (b0 = 240 → 144 ≤ b1) ∧ (b0 = 244 → b1 ≤ 143))) := by
  have e1 : tlB n 1 b1 = true ↔ (1 < n ∧ 128 ≤ b1 ∧ b1 ≤ 191) := decide_eq_true_iff
  have e2 : tlB n 2 b2 = true ↔ (2 < n ∧ 128 ≤ b2 ∧ b2 ≤ 191) := decide_eq_true_iff
  have e3 : tlB n 3 b3 = true ↔ (3 < n ∧ 128 ≤ b3 ∧ b3 ≤ 191) := decide_eq_true_iff
  unfold sizeN sizeB
  by_cases c0 : b0 < 128
  · exact .inl ⟨if_pos c0, c0⟩
  rw [if_neg c0]
  have zero : ∀ x : Nat, x = 0 → ¬ ((194 ≤ b0 ∧ b0 ≤ 223) ∧ (1 < n ∧ 128 ≤ b1 ∧ b1 ≤ 191)) →
      ¬ ((224 ≤ b0 ∧ b0 ≤ 239) ∧ (1 < n ∧ 128 ≤ b1 ∧ b1 ≤ 191) ∧ (2 < n ∧ 128 ≤ b2 ∧ b2 ≤ 191) ∧ (b0 = 224 → 160 ≤ b1) ∧ (b0 = 237 → b1 ≤ 159)) →
      ¬ ((240 ≤ b0 ∧ b0 ≤ 244) ∧ (1 < n ∧ 128 ≤ b1 ∧ b1 ≤ 191) ∧ (2 < n ∧ 128 ≤ b2 ∧ b2 ≤ 191) ∧ (3 < n ∧ 128 ≤ b3 ∧ b3 ≤ 191) ∧ (b0 = 240 → 144 ≤ b1) ∧ (b0 = 244 → b1 ≤ 143)) →
      (x = 0 ∧ 128 ≤ b0 ∧ ¬ ((194 ≤ b0 ∧ b0 ≤ 223) ∧ (1 < n ∧ 128 ≤ b1 ∧ b1 ≤ 191)) ∧
      ¬ ((224 ≤ b0 ∧ b0 ≤ 239) ∧ (1 < n ∧ 128 ≤ b1 ∧ b1 ≤ 191) ∧ (2 < n ∧ 128 ≤ b2 ∧ b2 ≤ 191) ∧ (b0 = 224 → 160 ≤ b1) ∧ (b0 = 237 → b1 ≤ 159)) ∧
      ¬ ((240 ≤ b0 ∧ b0 ≤ 244) ∧ (1 < n ∧ 128 ≤ b1 ∧ b1 ≤ 191) ∧ (2 < n ∧ 128 ≤ b2 ∧ b2 ≤ 191) ∧ (3 < n ∧ 128 ≤ b3 ∧ b3 ≤ 191) ∧ (b0 = 240 → 144 ≤ b1) ∧ (b0 = 244 → b1 ≤ 143))) := fun x h a b c => ⟨h, by omega, a, b, c⟩
  by_cases c1 : b0 < 194
  · rw [if_pos c1]
    exact .inr (.inr (.inr (.inr (zero _ rfl (fun h => by omega) (fun h => by omega) (fun h => by omega)))))
  rw [if_neg c1]
  by_cases c2 : b0 ≤ 223
  · rw [if_pos c2]
    by_cases t1 : tlB n 1 b1 = true
    · rw [if_pos t1]
      exact .inr (.inl ⟨rfl, by omega, c2, e1.1 t1⟩)
    · rw [if_neg t1]
      exact .inr (.inr (.inr (.inr (zero _ rfl (fun h => t1 (e1.2 h.2)) (fun h => by omega) (fun h => by omega)))))
  rw [if_neg c2]
  by_cases c3 : b0 ≤ 239
  · rw [if_pos c3]
    by_cases t1 : tlB n 1 b1 = true
    · rw [if_pos t1]
      by_cases t2 : tlB n 2 b2 = true
      · rw [if_pos t2]
        by_cases g1 : b0 = 224 ∧ b1 < 160
        · rw [if_pos g1]
          exact .inr (.inr (.inr (.inr (zero _ rfl (fun h => by omega) (fun h => by omega) (fun h => by omega)))))
        · rw [if_neg g1]
          by_cases g2 : b0 = 237 ∧ 159 < b1
          · rw [if_pos g2]
            exact .inr (.inr (.inr (.inr (zero _ rfl (fun h => by omega) (fun h => by omega) (fun h => by omega)))))
          · rw [if_neg g2]
            exact .inr (.inr (.inl ⟨rfl, by omega, c3, e1.1 t1, e2.1 t2, fun h => by omega, fun h => by omega⟩))
      · rw [if_neg t2]
        exact .inr (.inr (.inr (.inr (zero _ rfl (fun h => by omega) (fun h => t2 (e2.2 h.2.2.1)) (fun h => by omega)))))
    · rw [if_neg t1]
      exact .inr (.inr (.inr (.inr (zero _ rfl (fun h => by omega) (fun h => t1 (e1.2 h.2.1)) (fun h => by omega)))))
  rw [if_neg c3]
  by_cases c4 : b0 ≤ 244
  · rw [if_pos c4]
    by_cases t1 : tlB n 1 b1 = true
    · rw [if_pos t1]
      by_cases t2 : tlB n 2 b2 = true
      · rw [if_pos t2]
        by_cases t3 : tlB n 3 b3 = true
        · rw [if_pos t3]
          by_cases g1 : b0 = 240 ∧ b1 < 144
          · rw [if_pos g1]
            exact .inr (.inr (.inr (.inr (zero _ rfl (fun h => by omega) (fun h => by omega) (fun h => by omega)))))
          · rw [if_neg g1]
            by_cases g2 : b0 = 244 ∧ 143 < b1
            · rw [if_pos g2]
              exact .inr (.inr (.inr (.inr (zero _ rfl (fun h => by omega) (fun h => by omega) (fun h => by omega)))))
            · rw [if_neg g2]
              exact .inr (.inr (.inr (.inl ⟨rfl, by omega, c4, e1.1 t1, e2.1 t2, e3.1 t3, fun h => by omega, fun h => by omega⟩)))
        · rw [if_neg t3]
          exact .inr (.inr (.inr (.inr (zero _ rfl (fun h => by omega) (fun h => by omega) (fun h => t3 (e3.2 h.2.2.2.1))))))
      · rw [if_neg t2]
        exact .inr (.inr (.inr (.inr (zero _ rfl (fun h => by omega) (fun h => by omega) (fun h => t2 (e2.2 h.2.2.1))))))
    · rw [if_neg t1]
      exact .inr (.inr (.inr (.inr (zero _ rfl (fun h => by omega) (fun h => by omega) (fun h => t1 (e1.2 h.2.1))))))
  rw [if_neg c4]
  exact .inr (.inr (.inr (.inr (zero _ rfl (fun h => by omega) (fun h => by omega) (fun h => by omega)))))
set_option maxHeartbeats 2000000 in
theorem decode_size (n b0 b1 b2 b3 : Nat) (h1 : b1 < 256) (h2 : b2 < 256) (h3 : b3 < 256) (h0 : b0 < 256) :
    decodeN n b0 b1 b2 b3 = if sizeN n b0 b1 b2 b3 = 0 then (65533, 1) else (lv (sizeN n b0 b1 b2 b3) b0 b1 b2 b3, sizeN n b0 b1 b2 b3) := by
  rcases sizeN_cases n b0 b1 b2 b3 with ⟨hz, h⟩ | ⟨hz, h⟩ | ⟨hz, h⟩ | ⟨hz, h⟩ | ⟨hz, h⟩
  all_goals
    rw [hz]
    unfold decodeN lv
    simp only [if_true, if_false, Nat.reduceEqDiff, Nat.succ_ne_self]
    repeat' split
    all_goals first | (exfalso; omega) | exact Prod.ext (by first | (dsimp only; done) | (dsimp only; omega)) (by dsimp only)
end Go.Proofs.YtgfdfmgocijdgaaGreatDoor
