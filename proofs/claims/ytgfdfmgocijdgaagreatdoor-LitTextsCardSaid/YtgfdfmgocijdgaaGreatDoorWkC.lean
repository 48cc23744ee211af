/- lit.value of the checked program, walked: the number of so many digits of the bases 8 and 16 at a text's beginning. -/
import Derived.Test.YtgfdfmgocijdgaaGreatDoorWkB
namespace Go.Proofs.YtgfdfmgocijdgaaGreatDoor
open Go.RowKit Go.Lib Go.Shelf Go.Proofs.YtgfdfmgocijdgaaGreatDoorW.PrintWords Go.Proofs.YtgfdfmgocijdgaaGreatDoorW.PrintLast Go.Proofs.YtgfdfmgocijdgaaGreatDoorW.PrintMore PLitTexts
def cs8 : ByteArray := ⟨#[48, 49, 50, 51, 52, 53, 54, 55]⟩
def cs16 : ByteArray := ⟨#[48, 49, 50, 51, 52, 53, 54, 55, 56, 57, 97, 98, 99, 100, 101, 102, 65, 66, 67, 68, 69, 70]⟩
/-- A base and its digits. -/
def BaseOf (base : Nat) (cs : ByteArray) : Prop := base = 8 ∧ cs = cs8 ∨ base = 16 ∧ cs = cs16
theorem mem8 (c : UInt8) : cs8.data.toList.contains c = decide (dg c < 8) := by
  have h : ∀ c : Fin 256, cs8.data.toList.contains (UInt8.ofFin c) = decide (dg (UInt8.ofFin c) < 8) := by decide +kernel
  exact h c.toFin
theorem mem16 (c : UInt8) : cs16.data.toList.contains c = decide (dg c < 16) := by
  have h : ∀ c : Fin 256, cs16.data.toList.contains (UInt8.ofFin c) = decide (dg (UInt8.ofFin c) < 16) := by decide +kernel
  exact h c.toFin
theorem mem_base {base : Nat} {cs : ByteArray} (h : BaseOf base cs) (c : UInt8) : cs.data.toList.contains c = !odd base c := by
  unfold odd
  rcases h with ⟨rfl, rfl⟩ | ⟨rfl, rfl⟩
  · rw [mem8]; by_cases h : dg c < 8 <;> simp [h] <;> omega
  · rw [mem16]; by_cases h : dg c < 16 <;> simp [h] <;> omega
theorem drop_nil (p : UInt8 → Bool) : ∀ l : List UInt8, l.dropWhile p = [] ↔ l.all p = true
  | [] => by simp
  | x :: l => by
    by_cases h : p x = true
    · rw [List.dropWhile_cons_of_pos h, drop_nil p l, List.all_cons, h, Bool.true_and]
    · rw [List.dropWhile_cons_of_neg h, List.all_cons]
      simp [h]
theorem trim_all (p : UInt8 → Bool) (l : List UInt8) : ((l.reverse.dropWhile p).reverse).dropWhile p = [] ↔ l.all p = true := by
  rw [drop_nil, List.all_reverse]
  constructor
  · intro h
    have e : l.reverse.all p = true := by
      rw [← List.takeWhile_append_dropWhile (p := p) (l := l.reverse), List.all_append, h, Bool.and_true]
      exact List.all_takeWhile
    rwa [List.all_reverse] at e
  · intro h
    refine List.all_eq_true.2 fun x hx => List.all_eq_true.1 h x ?_
    exact List.mem_reverse.1 ((List.dropWhile_sublist p).subset hx)
theorem trim_nil {base : Nat} {cs : ByteArray} (h : BaseOf base cs) (l : List UInt8) : Lib.trimS l cs.data.toList = [] ↔ digs base l = true := by
  have e : (fun c => cs.data.toList.contains c) = fun c => !odd base c := funext (mem_base h)
  unfold Lib.trimS Lib.trimLeftS Lib.trimRightS digs
  rw [e]
  exact trim_all _ l
theorem base_ascii {base : Nat} {cs : ByteArray} (h : BaseOf base cs) : ∀ (j : Nat) b, cs.data.toList[j]? = some b → b.toNat < 128 := by
  rcases h with ⟨_, rfl⟩ | ⟨_, rfl⟩ <;> exact ascii_of_all (by decide)
theorem base_size {base : Nat} {cs : ByteArray} (h : BaseOf base cs) : cs.size < 4294967281 := by
  rcases h with ⟨_, rfl⟩ | ⟨_, rfl⟩ <;> decide
/-- strings.Trim of a text by a base's digits: nothing is left, or something. -/
def TrimPost (t : Bool) (W : World) (e : Ending) (w' : World) : Prop := ∃ x : ByteArray, e = .returned (.string x) ∧ x.toList.isEmpty = t ∧ Below W.heap.size W w'
theorem trim_any {base : Nat} {cs : ByteArray} (h : BaseOf base cs) (s : ByteArray) (hs : s.size ≤ 4010) (w : World) : Calls Tryz.prog 46 #[.string s, .string cs] w (TrimPost (digs base s.data.toList) w) := by
  refine (Any.strings_Trim_laid Tryz.lays160 (by kernel_rfl) s cs w (by omega) (base_size h) (base_ascii h)).mono ?_
  rintro e w' ⟨rfl, hb⟩
  refine ⟨_, rfl, ?_, hb⟩
  rw [Lib.toList_data]
  have := trim_nil h s.data.toList
  cases hd : digs base s.data.toList with
  | true => rw [this.2 hd]; rfl
  | false =>
    cases hl : Lib.trimS s.data.toList cs.data.toList with
    | nil => rw [this.1 hl] at hd; cases hd
    | cons _ _ => rfl
theorem i64_in' (n : Int) (h0 : 0 ≤ n) (h1 : n < 9223372036854775808) : IntKind.i64.wrap n = n := by
  rw [i64_w]; unfold wrap64; omega
theorem RowN.zero {w : World} {A : Option Addr} {n c : Nat} (h : RowN w A n c 0) : n = 0 := h.1
theorem RowN.pos {w : World} {A : Option Addr} {n c v : Nat} (h : RowN w A n c v) (hv : v ≠ 0) : n = 1 ∧ ∃ ad, A = some ad ∧ w.cell? ad = some (.int .u32 v) := by
  have e : natL v = [(v : Int)] := if_neg hv
  obtain ⟨h1, _, h3⟩ := h
  rw [e] at h1 h3
  obtain ⟨ad, ha, hc⟩ := Kd.at_int h3 0 (by omega) (by simp)
  exact ⟨h1, ad, ha, hc⟩
theorem below_two {w w1 w2 : World} (h1 : Below w.heap.size w w1) (h2 : Below w1.heap.size w1 w2) : Below w.heap.size w w2 := h1.trans (h2.mono h1.size)
/-- The number of so many digits at a text's beginning; -1: they are not there. -/
def valueS (l : List UInt8) (many base : Nat) : Int := if many ≤ l.length then (if digs base (l.take many) = true then (valD base (l.take many) : Int) else -1) else -1
def IntPost (r : Int) (W : World) (e : Ending) (w' : World) : Prop := e = .returned (.int .i64 r) ∧ Below W.heap.size W w'
theorem extract_list (s : ByteArray) (m : Nat) : (s.extract 0 m).data.toList = s.data.toList.take m := by simp
set_option maxRecDepth 1000000 in
set_option maxHeartbeats 4000000 in
theorem value_any {base : Nat} {cs : ByteArray} (h : BaseOf base cs) (s : ByteArray) (many : Nat) (_hs : s.size ≤ 4010) (h0 : 0 < many) (hm : many ≤ 8) (w : World) (hb : BasesAt w) :
    Calls Tryz.prog 25 #[.string s, .int .i64 many, .int .i64 base, .string cs] w (IntPost (valueS s.data.toList many base) w) := by
  have hl : s.data.toList.length = s.size := by simp
  by_cases hlt : many ≤ s.size
  · have c1 : decide ((s.size : Int) < (many : Int)) = false := decide_eq_false (by omega)
    have c2 : decide (s.size < many) = false := decide_eq_false (by omega)
    have c3 : (many : Int) ≤ (s.size : Int) := by omega
    have hsz : (s.extract 0 many).size = many := by simp; omega
    have hvs : valueS s.data.toList many base = if digs base (s.data.toList.take many) = true then (valD base (s.data.toList.take many) : Int) else -1 := by
      unfold valueS; rw [if_pos (by omega)]
    rw [hvs]
    clear hvs
    have hT := fun W => trim_any h (s.extract 0 many) (by omega) W
    rw [extract_list] at hT
    have hmr := val_small (s.extract 0 many) base (by rcases h with ⟨rfl, _⟩ | ⟨rfl, _⟩ <;> simp) (by omega)
    have hP := fun W hb => parse_any (s.extract 0 many) base W hb (by rcases h with ⟨rfl, _⟩ | ⟨rfl, _⟩ <;> simp) (by omega) (by omega)
    rw [extract_list] at hP hmr
    cases hd : digs base (s.data.toList.take many) with
    | false =>
      rw [hd] at hT
      clear hd hP hmr hsz
      go_enter Tryz.func25, Tryz.ntmps25
      go_wp2_with (first | (go_at_call 46; (with_reducible refine (hT _).mono ?_); rintro e w1 ⟨x, rfl, hx, hb1⟩))
      go_ret
      exact ⟨rfl, hb1⟩
    | true =>
      rw [hd] at hT
      have hP' := fun W hb => hP W hb hd
      have hmr' := hmr hd many
      rw [List.take_take, Nat.min_self] at hmr'
      clear hd hP hmr hsz
      generalize valD base (s.data.toList.take many) = v at *
      by_cases hv : v = 0
      · subst hv
        clear hmr'
        go_enter Tryz.func25, Tryz.ntmps25
        go_wp2_with (first | (go_at_call 46; (with_reducible refine (hT _).mono ?_); rintro e w1 ⟨x, rfl, hx, hb1⟩) | (go_at_call 36; (with_reducible refine (hP' _ (hb.below hb.size hb1)).mono ?_); rintro e w2 ⟨A, c, n, rfl, hr, hb2⟩; have hn := hr.zero; clear hr; subst hn))
        go_ret
        exact ⟨rfl, below_two hb1 hb2⟩
      · have v1 : IntKind.i64.wrap (v : Int) = v := i64_in' _ (by omega) (by omega)
        clear hmr'
        go_enter Tryz.func25, Tryz.ntmps25
        go_wp2_with (first | (go_at_call 46; (with_reducible refine (hT _).mono ?_); rintro e w1 ⟨x, rfl, hx, hb1⟩) | (go_at_call 36; (with_reducible refine (hP' _ (hb.below hb.size hb1)).mono ?_); rintro e w2 ⟨A, c, n, rfl, hr, hb2⟩; obtain ⟨hn, ad, rfl, hcell⟩ := hr.pos hv; clear hr; subst hn))
        go_ret
        exact ⟨rfl, below_two hb1 hb2⟩
  · have c1 : decide ((s.size : Int) < (many : Int)) = true := decide_eq_true (by omega)
    have c2 : decide (s.size < many) = true := decide_eq_true (by omega)
    have hvs : valueS s.data.toList many base = -1 := by unfold valueS; rw [if_neg (by omega)]
    rw [hvs]
    clear hvs
    go_enter Tryz.func25, Tryz.ntmps25
    go_wp2
    go_ret
    exact ⟨rfl, Below.refl _ _⟩
end Go.Proofs.YtgfdfmgocijdgaaGreatDoor
