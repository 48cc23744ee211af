/- What is asked of the world (the laid variables), and what keeps it; nat.Parse of digits of the bases 8 and 16, walked. -/
import Derived.Test.YtgfdfmgocijdgaaGreatDoorPRx1
import Derived.Test.YtgfdfmgocijdgaaGreatDoorWkA
import Derived.StillTailTactics
import Derived.Shelf.GgClosure.Gives
namespace Go.Proofs.YtgfdfmgocijdgaaGreatDoor
open Go.RowKit Go.Lib Go.Shelf Go.Proofs.YtgfdfmgocijdgaaGreatDoorW.PrintWords Go.Proofs.YtgfdfmgocijdgaaGreatDoorW.PrintLast Go.Proofs.YtgfdfmgocijdgaaGreatDoorW.PrintMore PLitTexts
/-- nat.bases as the text lays it. -/
def BasesAt (w : World) : Prop := ∀ i : Nat, i < 4 → w.cell? ⟨0, i, none⟩ = some (.int .i64 ([2, 8, 10, 16].getD i 0))
theorem BasesAt.below {w w' : World} {n : Nat} (h : BasesAt w) (hn : 0 < n) (b : Below n w w') : BasesAt w' := fun i hi => (b.cell (p := ⟨0, i, none⟩) hn).trans (h i hi)
theorem BasesAt.size {w : World} (h : BasesAt w) : 0 < w.heap.size := World.block_lt_of_cell? w ⟨0, 0, none⟩ (h 0 (by omega))
theorem BasesAt.drewN {w : World} (h : BasesAt w) (n : Nat) : BasesAt (w.drewN n) := h.below h.size (pw_below_drewN (Below.refl _ _) n)
theorem BasesAt.alloc {w : World} (h : BasesAt w) (o : Obj) : BasesAt (w.alloc o) := h.below h.size ((Below.refl _ _).alloc (Nat.le_refl _) _)
theorem bases_C {w : World} (h : BasesAt w) : Kd.C (Kd.int .i64) w (some ⟨0, 0, none⟩) 4 [2, 8, 10, 16] := by
  refine ⟨rfl, by omega, fun _ => ⟨_, rfl, fun j p hj => ⟨[.int .i64 p], rfl, rfl, fun i u hu => ?_⟩⟩⟩
  obtain ⟨hl, hp⟩ := List.getElem?_eq_some_iff.1 hj
  have hl' : j < 4 := hl
  cases i with
  | succ i => simp at hu
  | zero =>
    simp at hu
    subst hu
    have := h j hl'
    rw [List.getD_eq_getElem?_getD, hj] at this
    have e : (Addr.add ⟨0, 0, none⟩ (j * (Kd.int IntKind.i64).sz + 0)) = ⟨0, j, none⟩ := by
      have hsz : (Kd.int IntKind.i64).sz = 1 := rfl
      rw [hsz, Nat.mul_one, Nat.add_zero]
      unfold Addr.add
      by_cases h0 : j = 0
      · rw [if_pos h0, h0]
      · rw [if_neg h0]; show (⟨0, 0 + j, none⟩ : Addr) = _; rw [Nat.zero_add]
    rw [e]
    simpa using this
theorem contains8 : slices_Contains_int_int.f 5 [2, 8, 10, 16] 8 = some true := by decide +kernel
theorem contains16 : slices_Contains_int_int.f 5 [2, 8, 10, 16] 16 = some true := by decide +kernel
def Is816 (base : Int) : Prop := base = 8 ∨ base = 16
theorem contains_any {w : World} (h : BasesAt w) (base : Int) (hb : Is816 base) : Calls Tryz.prog 61 #[.slice (some ⟨0, 0, none⟩) 4 4, .int .i64 base] w fun e w' => e = .returned (.bool true) ∧ ∃ n, w' = w.drewN n := by
  rcases hb with rfl | rfl
  · exact (slices_Contains_int_int.calls 5 (some ⟨0, 0, none⟩) 4 [2, 8, 10, 16] 8 true w (bases_C h) (by decide) contains8).mono fun _ _ ⟨h1, ⟨n, h2⟩⟩ => ⟨h1, n, h2⟩
  · exact (slices_Contains_int_int.calls 5 (some ⟨0, 0, none⟩) 4 [2, 8, 10, 16] 16 true w (bases_C h) (by decide) contains16).mono fun _ _ ⟨h1, ⟨n, h2⟩⟩ => ⟨h1, n, h2⟩
/-- A byte's number. -/
def dg (c : UInt8) : Nat := if 48 ≤ c.toNat ∧ c.toNat ≤ 57 then c.toNat - 48 else if 97 ≤ c.toNat ∧ c.toNat ≤ 102 then c.toNat - 87 else if 65 ≤ c.toNat ∧ c.toNat ≤ 70 then c.toNat - 55 else 99
theorem digit_f (c : UInt8) : nat_digit.f 5 (c.toNat : Int) = some (dg c : Int) := by
  have h : ∀ c : Fin 256, nat_digit.f 5 ((UInt8.ofFin c).toNat : Int) = some (dg (UInt8.ofFin c) : Int) := by decide +kernel
  exact h c.toFin
theorem digit_any (c : UInt8) (w : World) : Calls Tryz.prog 60 #[.int .u8 (c.toNat : Int)] w fun e w' => e = .returned (.int .i64 (dg c : Int)) ∧ ∃ n, w' = w.drewN n :=
  (nat_digit.calls 5 (c.toNat : Int) _ w (digit_f c)).mono fun _ _ ⟨h1, ⟨n, h2⟩⟩ => ⟨h1, n, h2⟩
def odd (base : Int) (c : UInt8) : Bool := decide (base ≤ (dg c : Int))
set_option maxRecDepth 1000000 in
set_option maxHeartbeats 4000000 in
theorem odd_gives (B : Nat) (base : Int) (w : World) (hB : B < w.heap.size) (hc : w.cell? ⟨B, 0, none⟩ = some (.int .i64 base)) : PredAt Tryz.prog 59 #[.pointer (some ⟨B, 0, none⟩)] (fun x : UInt8 => Value.int .u8 (x.toNat : Int)) (odd base) w := by
  intro W x hb
  have hc' := (hb.cell (p := ⟨B, 0, none⟩) hB).trans hc
  unfold FnGives odd
  go_enter Tryz.func59, Tryz.ntmps59
  go_wp2
  go_quiet ((go_at_call 60; refine (digit_any x _).mono ?_; rintro e w' ⟨rfl, nd, rfl⟩; exact ⟨rfl, _, World.drewN_drewN _ _ _⟩))
  go_wp2
  go_ret
  exact ⟨rfl, _, rfl⟩
theorem u64_in (n : Int) (h0 : 0 ≤ n) (h1 : n < 18446744073709551616) : IntKind.u64.wrap n = n := by
  show (if (false && decide (n % 18446744073709551616 ≥ 9223372036854775808)) = true then n % 18446744073709551616 - 18446744073709551616 else n % 18446744073709551616) = n
  rw [Bool.false_and, if_neg (by simp)]
  omega
def natL (v : Nat) : List Int := if v = 0 then [] else [(v : Int)]
theorem trim_one (k : Nat) (d : Nat) : nat_trim.f (k + 2) [(d : Int)] = some (natL d) := by
  unfold natL
  by_cases h : d = 0
  · subst h; simp [nat_trim.f, nat_trim.l0, wrap64, rd]
  · simp [nat_trim.f, nat_trim.l0, wrap64, rd, h]
theorem trim_two (k : Nat) (d : Nat) (h : d ≠ 0) : nat_trim.f (k + 3) [(d : Int), 0] = some (natL d) := by
  simp [nat_trim.f, nat_trim.l0, wrap64, rd, h, natL]
theorem small_f (v d base : Nat) (hb : base = 8 ∨ base = 16) (h : v * base + d < 4294967296) : nat_small.f 9 (natL v) (base : Int) (d : Int) = some (natL (v * base + d)) := by
  by_cases hv : v = 0
  · subst hv
    have e : ((d : Int) % 4294967296) = d := by omega
    simp [natL, nat_small.f, nat_small.l0, e]
    have := trim_one 6 d
    simpa [natL] using this
  · have hn : natL v = [(v : Int)] := if_neg hv
    rw [hn]
    have hvb : v ≤ v * base := Nat.le_mul_of_pos_right _ (by omega)
    obtain ⟨p, hp⟩ : ∃ p, v * base = p := ⟨_, rfl⟩
    have hp' : (v : Int) * (base : Int) = (p : Int) := by rw [← hp]; simp
    rw [hp] at h hvb ⊢
    have w1 : IntKind.u64.wrap (v : Int) = v := u64_in _ (by omega) (by omega)
    have w2 : IntKind.u64.wrap ((v : Int) * base) = p := by rw [hp']; exact u64_in _ (by omega) (by omega)
    have w3 : IntKind.u64.wrap ((d : Int) + p) = d + p := u64_in _ (by omega) (by omega)
    have e1 : (((d : Int) + p) / 4294967296) = 0 := by omega
    have e2 : (((d : Int) + p) % 4294967296) = ((p + d : Nat) : Int) := by omega
    simp [nat_small.f, nat_small.l0, rd, w1, w2, w3, e1, wrap64]
    rw [e2]
    exact trim_two 4 _ (by omega)
theorem below_bytes (w : World) (e : TypeId) (s : ByteArray) : Below w.heap.size w (bytesWorld w e s) :=
  ⟨rfl, rfl, rfl, by rw [bytesWorld_size]; omega, fun k hk => bytesWorld_at_old w e s k hk⟩
/-- All are digits of the base. -/
def digs (base : Int) (l : List UInt8) : Bool := l.all fun c => !odd base c
theorem cf_any (s : ByteArray) (base : Int) (W : World) (B b c : Nat) (hbe : W.heap.size = b) (hB : B < W.heap.size) (hc : W.cell? ⟨B, 0, none⟩ = some (.int .i64 base)) (hd : digs base s.data.toList = true) (hs : s.size ≤ 8) :
    Calls Tryz.prog 62 #[.slice (some ⟨b, 0, none⟩) s.size c, .func (.func 59) #[] #[.pointer (some ⟨B, 0, none⟩)]] (bytesWorld W 5 s) fun e w' => e = .returned (.bool false) ∧ Below W.heap.size W w' := by
  subst hbe
  have hb := below_bytes W 5 s
  have hB' : B < (bytesWorld W 5 s).heap.size := Nat.lt_of_lt_of_le hB hb.size
  have hc' := (hb.cell (p := ⟨B, 0, none⟩) hB).trans hc
  have hl : s.data.toList.length = s.size := by simp
  have hany : ((s.data.toList).take s.size).any (odd base) = false := by
    rw [List.take_of_length_le (by omega), List.any_eq_false]
    intro x hx
    have := List.all_eq_true.1 hd x hx
    simpa using this
  have h := AnyE.slices_ContainsFunc Tryz.laysH8 (fun x : UInt8 => Value.int .u8 (x.toNat : Int)) (odd base) 59 #[.pointer (some ⟨B, 0, none⟩)] (enters_of Tryz.func59 (by kernel_rfl) rfl) W.heap.size 0 s.size c s.data.toList (bytesWorld W 5 s)
    (odd_gives B base _ hB' hc') (by omega) (by omega) (fun j hj => by
      have := bytesWorld_cell W 5 s j (by omega)
      rw [Nat.zero_add, this, List.getD_eq_getElem?_getD, List.getElem!_eq_getElem?_getD]
      rfl)
  rw [hany] at h
  exact h.mono fun _ _ ⟨h1, q, h2⟩ => ⟨h1, by rw [h2]; exact pw_below_drewN hb q⟩
theorem small_any (v d base : Nat) (hb : base = 8 ∨ base = 16) (h : v * base + d < 4294967296) (A : Option Addr) (n c : Nat) (W : World) (hn : n = (natL v).length) (hr : Kd.C (Kd.int .u32) W A (natL v).length (natL v)) (hc : n ≤ c) :
    Calls Tryz.prog 63 #[.slice A n c, .int .u64 (base : Int), .int .u64 (d : Int)] W fun e w' => ∃ v0 : Value, e = .returned v0 ∧ Kd.V (Kd.int .u32) 53 w' W.heap.size (fun k => W.heap.size ≤ k) v0 (natL (v * base + d)) ∧ Below W.heap.size W w' := by
  subst hn
  exact nat_small.calls 9 A c (natL v) base d _ W hr hc (small_f v d base hb h)
/-- What digits stand for. -/
def valD (base : Nat) (l : List UInt8) : Nat := l.foldl (fun v c => v * base + dg c) 0
theorem valD_snoc (base : Nat) (l : List UInt8) (c : UInt8) : valD base (l ++ [c]) = valD base l * base + dg c := by simp [valD]
theorem valD_lt (base : Nat) (h0 : 0 < base) : ∀ (n : Nat) (l : List UInt8), l.length ≤ n → (∀ c ∈ l, dg c < base) → valD base l < base ^ n := by
  intro n
  induction n with
  | zero => intro l h _; cases l with
    | nil => exact Nat.one_pos
    | cons x l => simp at h
  | succ n ih =>
    intro l h hd
    rcases List.eq_nil_or_concat l with rfl | ⟨l', x, rfl⟩
    · exact Nat.pow_pos h0
    · rw [List.concat_eq_append] at *
      rw [valD_snoc, Nat.pow_succ]
      have h1 := ih l' (by simp at h; omega) (fun c hc => hd c (by simp [hc]))
      have h2 := hd x (by simp)
      have q1 : valD base l' * base + base = (valD base l' + 1) * base := by rw [Nat.add_mul, Nat.one_mul]
      have q2 : (valD base l' + 1) * base ≤ base ^ n * base := Nat.mul_le_mul_right _ h1
      omega
theorem below_from {w w1 : World} {o : Obj} {m : Nat} (h : Below ((w.alloc o).drewN m).heap.size ((w.alloc o).drewN m) w1) : Below (w.heap.size + 1) (w.alloc o) w1 := by
  have e : ((w.alloc o).drewN m).heap.size = w.heap.size + 1 := by simp
  rw [e] at h
  exact (pw_below_drewN (Below.refl _ _) m).trans h
def RowN (w : World) (A : Option Addr) (n c v : Nat) : Prop := n = (natL v).length ∧ n ≤ c ∧ Kd.C (Kd.int .u32) w A (natL v).length (natL v)
theorem natL_len (v : Nat) : (natL v).length ≤ 1 := by unfold natL; split <;> simp
theorem RowN.le {w : World} {A : Option Addr} {n c v : Nat} (h : RowN w A n c v) : n ≤ 1 := by rw [h.1]; exact natL_len v
theorem RowN.drewN {w : World} {A : Option Addr} {n c v : Nat} (h : RowN w A n c v) (m : Nat) : RowN (w.drewN m) A n c v := ⟨h.1, h.2.1, Kd.C_drewN h.2.2 m⟩
def PInv (s : ByteArray) (base : Nat) (w : World) (k : Nat) (v7 : Value) (w' : World) : Prop :=
  k ≤ s.size ∧ ∃ A c n, v7 = .slice A n c ∧ RowN w' A n c (valD base (s.data.toList.take k)) ∧
    Below w.heap.size w w' ∧ w.heap.size < w'.heap.size ∧ w'.cell? ⟨w.heap.size, 0, none⟩ = some (.int .i64 base)
theorem pinv_start (s : ByteArray) (base : Nat) (w w1 : World) (hb : Below (w.heap.size + 1) (w.alloc (.cells #[.int .i64 base] 3)) w1) : PInv s base w 0 (.slice none 0 0) w1 := by
  have h0 : Below w.heap.size w (w.alloc (.cells #[.int .i64 base] 3)) := (Below.refl _ _).alloc (Nat.le_refl _) _
  have h1 : Below w.heap.size w w1 := h0.trans (hb.mono (by omega))
  refine ⟨Nat.zero_le _, none, 0, 0, rfl, ⟨rfl, Nat.le_refl _, Kd.C_nil _ _⟩, h1, ?_, ?_⟩
  · have := hb.size; simp at this; omega
  · exact (hb.cell (p := ⟨w.heap.size, 0, none⟩) (by simp)).trans (by simp)
theorem digs_lt {base : Nat} {l : List UInt8} (h : digs (base : Int) l = true) : ∀ c ∈ l, dg c < base := by
  intro c hc
  have := List.all_eq_true.1 h c hc
  unfold odd at this
  simp at this
  omega
theorem take_snoc (s : ByteArray) (k : Nat) (h : k < s.size) : s.data.toList.take (k + 1) = s.data.toList.take k ++ [s[k]] := by
  rw [List.take_succ_eq_append_getElem (by simpa using h)]; rfl
theorem pow_small (base : Nat) (hi : base = 8 ∨ base = 16) (n : Nat) (h : n ≤ 8) : base ^ n ≤ 4294967296 := by
  rcases hi with rfl | rfl
  · exact Nat.le_trans (Nat.pow_le_pow_right (by omega) h) (show 8 ^ 8 ≤ 4294967296 by decide)
  · exact Nat.le_trans (Nat.pow_le_pow_right (by omega) h) (show 16 ^ 8 ≤ 4294967296 by decide)
theorem val_small (s : ByteArray) (base : Nat) (hi : base = 8 ∨ base = 16) (hs : s.size ≤ 8) (hdg : digs (base : Int) s.data.toList = true) (k : Nat) : valD base (s.data.toList.take k) < 4294967296 := by
  have h1 := valD_lt base (by omega) 8 (s.data.toList.take k) (by have : s.data.toList.length = s.size := by simp
                                                                  rw [List.length_take]; omega) (fun c hc => digs_lt hdg c (List.mem_of_mem_take hc))
  have := pow_small base hi 8 (Nat.le_refl _)
  omega
def SmallPost (v : Nat) (W : World) (e : Ending) (w' : World) : Prop := ∃ A c n, e = .returned (.slice A n c) ∧ RowN w' A n c v ∧ Below W.heap.size W w'
theorem small_w (s : ByteArray) (base : Nat) (hi : base = 8 ∨ base = 16) (hs : s.size ≤ 8) (hdg : digs (base : Int) s.data.toList = true) (k : Nat) (hk : k < s.size) (A : Option Addr) (n c : Nat) (W : World) (h : RowN W A n c (valD base (s.data.toList.take k))) :
    Calls Tryz.prog 63 #[.slice A n c, .int .u64 (IntKind.u64.wrap (base : Int)), .int .u64 (IntKind.u64.wrap (dg s[k] : Int))] W (SmallPost (valD base (s.data.toList.take (k + 1))) W) := by
  have hd : dg s[k] < base := digs_lt hdg _ (Array.mem_toList_iff.2 (Array.getElem_mem (by simpa using hk)))
  have hv := val_small s base hi hs hdg (k + 1)
  rw [take_snoc s k hk, valD_snoc] at hv ⊢
  rw [u64_in (base : Int) (by omega) (by omega), u64_in (dg s[k] : Int) (by omega) (by omega)]
  refine (small_any _ _ base hi hv A n c W h.1 h.2.2 h.2.1).mono ?_
  rintro e w' ⟨v0, rfl, hV, hB⟩
  obtain ⟨A', c', rfl⟩ := Kd.V_slice hV
  obtain ⟨_, h2, h3⟩ := Kd.V_reads' hV
  exact ⟨A', c', _, rfl, ⟨rfl, h2, h3⟩, hB⟩
theorem pinv_next (s : ByteArray) (base : Nat) (w wr w2 : World) (k m : Nat) (hk : k < s.size) (hB : Below w.heap.size w wr) (hsz : w.heap.size < wr.heap.size) (hcell : wr.cell? ⟨w.heap.size, 0, none⟩ = some (.int .i64 base))
    (A : Option Addr) (n c : Nat) (hr : RowN w2 A n c (valD base (s.data.toList.take (k + 1)))) (hb2 : Below (wr.drewN m).heap.size (wr.drewN m) w2) : PInv s base w (k + 1) (.slice A n c) w2 := by
  have h1 : Below wr.heap.size wr w2 := by
    have e : (wr.drewN m).heap.size = wr.heap.size := by simp
    rw [e] at hb2
    exact (pw_below_drewN (Below.refl _ _) m).trans hb2
  exact ⟨hk, A, c, n, rfl, hr, hB.trans (h1.mono (by omega)), Nat.lt_of_lt_of_le hsz h1.size, (h1.cell (p := ⟨w.heap.size, 0, none⟩) hsz).trans hcell⟩
def ParsePost (v : Nat) (W : World) (e : Ending) (w' : World) : Prop := ∃ A c n, e = .returned (.tuple #[.slice A n c, .int .i64 0]) ∧ RowN w' A n c v ∧ Below W.heap.size W w'
theorem not_empty (s : ByteArray) (hn : 0 < s.size) : s.toList.isEmpty = false := by
  rw [Lib.toList_data]
  cases h : s.data.toList with
  | nil => have : s.data.toList.length = s.size := by simp
           rw [h] at this; simp at this; omega
  | cons _ _ => rfl
set_option maxRecDepth 1000000 in
set_option maxHeartbeats 4000000 in
theorem parse_any (s : ByteArray) (base : Nat) (w : World) (hb : BasesAt w) (hi : base = 8 ∨ base = 16) (hn : 0 < s.size) (hs : s.size ≤ 8) (hdg : digs base s.data.toList = true) : Calls Tryz.prog 36 #[.string s, .int .i64 base] w (ParsePost (valD base s.data.toList) w) := by
  have hI : Is816 (base : Int) := by unfold Is816; omega
  have hne : s.toList.isEmpty = false := not_empty s hn
  have hconv : ∀ W, (convert 9 42 (.string s)).run Tryz.prog W = _ := fun W => Lib.run_convert_string_bytes W 9 42 5 s Tryz.underlying9 Tryz.underlying42 Tryz.underlying5
  have hst := pinv_start s base w
  go_enter Tryz.func36, Tryz.ntmps36
  go_wp2
  go_quiet ((go_at_call 61; refine (contains_any (by repeat (first | exact hb | apply BasesAt.alloc | apply BasesAt.drewN)) base hI).mono ?_; rintro e w' ⟨rfl, nd, rfl⟩; exact ⟨rfl, _, World.drewN_drewN _ _ _⟩))
  go_wp2_with (first | (go_at_call 62; (with_reducible refine (cf_any s base _ w.heap.size _ _ (by simp) (by simp) (by simp) hdg hs).mono ?_); rintro e w1 ⟨rfl, hb1⟩))
  have hst' := Lib.hid (hst w1 (below_from hb1))
  clear hb1 hst
  go_loopw [7, 26] (fun v7 v26 w' => ∃ k : Nat, v26 = .int .i64 (k : Int) ∧ Hid (PInv s base w k v7 w')) (fun _ v26 _ => s.size - (intOf v26).toNat)
  case atStart => exact ⟨0, rfl, hst'⟩
  case round =>
    clear hst'
    obtain ⟨k, rfl, hinv⟩ := hrel
    obtain ⟨hks, A, c, n, rfl, hrow0, hB, hsz, hcell⟩ := hinv.out
    have hrow := Lib.hid hrow0
    clear hinv hrow0
    by_cases hk : k < s.size
    · go_wp2
      go_region_with (first | (go_at_call 60; refine (digit_any s[k] _).mono ?_; rintro e w2 ⟨rfl, nd, rfl⟩) | (go_at_call 63; (with_reducible refine (small_w s base hi hs hdg k hk A n c _ (hrow.out.drewN _)).mono ?_); rintro e w2 ⟨A', c', n', rfl, hr2, hb2⟩; have hr2' := Lib.hid hr2; have hle := hr2.le; clear hr2; have hb2' := Lib.hid hb2; clear hb2))
      all_goals
        have hg1 : decide (16 < (n' : Int)) = false := decide_eq_false (by omega)
        have hg2 : decide (16 < n') = false := decide_eq_false (by omega)
        go_wp2
        go_roundw
        case rel => exact ⟨k + 1, by go_num, Lib.hid (pinv_next s base w _ _ k _ hk hB hsz hcell A' n' c' hr2'.out hb2'.out)⟩
        case measure => simp [intOf]; omega
    · go_wp2
      go_ret2
      have hkk : k = s.size := by omega
      have hr := hrow.out
      rw [hkk, List.take_of_length_le (by simp)] at hr
      exact ⟨A, c, n, rfl, hr, hB⟩
end Go.Proofs.YtgfdfmgocijdgaaGreatDoor
