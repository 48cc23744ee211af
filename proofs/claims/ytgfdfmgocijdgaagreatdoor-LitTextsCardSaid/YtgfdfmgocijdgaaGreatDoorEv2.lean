/- Its values and memory against the model's: the relation between them. -/
import Derived.Test.YtgfdfmgocijdgaaGreatDoorEv1
import Derived.Laws.Append
import Derived.Laws.IdiomCopy
import Derived.Below
import Derived.Calls
import Derived.Deep.Draws
import Derived.IntWalk
namespace Go.Ev
open Go
variable {α β : Type}

/-! ### Tables -/
theorem beqN (a b : Nat) : Nat.beq a b = decide (a = b) := by
  by_cases h : a = b
  · subst h; simp [Nat.beq_refl]
  · rw [decide_eq_false h]; exact Bool.eq_false_iff.2 fun e => h (Nat.eq_of_beq_eq_true e)
theorem bleN (a b : Nat) : Nat.ble a b = decide (a ≤ b) := by rw [Bool.eq_iff_iff, Nat.ble_eq]; simp
theorem bltN (a b : Nat) : Nat.blt a b = decide (a < b) := by rw [Bool.eq_iff_iff, Nat.blt_eq]; simp
theorem toPf_zero (f : Nat) : toPf f 0 = .h := by cases f <;> rfl
theorem toPf_succ (f n : Nat) : toPf (f + 1) n = cond (Nat.beq n 0) .h (cond (Nat.beq (Nat.mod n 2) 1) (.o (toPf f (Nat.div n 2))) (.i (toPf f (Nat.sub (Nat.div n 2) 1)))) := rfl
def P.val : P → Nat
  | .h => 0
  | .o p => 2 * p.val + 1
  | .i p => 2 * p.val + 2
theorem val_toPf (f : Nat) : ∀ n, n ≤ f → (toPf f n).val = n := by
  induction f with
  | zero => intro n h; have : n = 0 := by omega
            subst this; rfl
  | succ f ih =>
    intro n h
    rw [toPf_succ]
    by_cases h0 : n = 0
    · subst h0; rfl
    · have e0 : Nat.beq n 0 = false := by rw [beqN]; exact decide_eq_false h0
      rw [e0, cond_false]
      have hd : Nat.div n 2 = n / 2 := rfl
      have hm : Nat.mod n 2 = n % 2 := rfl
      by_cases h1 : n % 2 = 1
      · have e1 : Nat.beq (Nat.mod n 2) 1 = true := by rw [hm, h1]; rfl
        rw [e1, cond_true, P.val, hd, ih _ (by omega)]; omega
      · have e1 : Nat.beq (Nat.mod n 2) 1 = false := by rw [hm, beqN]; exact decide_eq_false h1
        have hs : Nat.sub (Nat.div n 2) 1 = n / 2 - 1 := rfl
        rw [e1, cond_false, P.val, hs, ih _ (by omega)]; omega
theorem val_toP (n : Nat) : (toP n).val = n := val_toPf n n (Nat.le_refl n)
theorem toP_ne {a b : Nat} (h : a ≠ b) : toP a ≠ toP b := fun e => h (by rw [← val_toP a, ← val_toP b, e])

theorem Tr.get_nil (d : α) (p : P) : Tr.get d p .nil = d := by
  induction p with
  | h => rfl
  | o p ih => exact ih
  | i p ih => exact ih
theorem Tr.get_set_self (d x : α) (p : P) : ∀ t : Tr α, Tr.get d p (Tr.set d x p t) = x := by
  induction p with
  | h => intro t; cases t <;> rfl
  | o p ih => intro t; cases t <;> exact ih _
  | i p ih => intro t; cases t <;> exact ih _
theorem Tr.get_set_other (d x : α) (p : P) : ∀ (q : P) (t : Tr α), p ≠ q → Tr.get d q (Tr.set d x p t) = Tr.get d q t := by
  induction p with
  | h => intro q t hne; cases q with
    | h => exact absurd rfl hne
    | o q => cases t with
      | nil => exact (Tr.get_nil d q).trans (Tr.get_nil d q).symm
      | node l v r => rfl
    | i q => cases t with
      | nil => exact (Tr.get_nil d q).trans (Tr.get_nil d q).symm
      | node l v r => rfl
  | o p ih => intro q t hne; cases q with
    | h => cases t <;> rfl
    | o q => cases t with
      | nil => exact ih q .nil (fun e => hne (by rw [e]))
      | node l v r => exact ih q l (fun e => hne (by rw [e]))
    | i q => cases t with
      | nil => rfl
      | node l v r => rfl
  | i p ih => intro q t hne; cases q with
    | h => cases t <;> rfl
    | o q => cases t with
      | nil => rfl
      | node l v r => rfl
    | i q => cases t with
      | nil => exact ih q .nil (fun e => hne (by rw [e]))
      | node l v r => exact ih q r (fun e => hne (by rw [e]))

/-! ### Lists as the evaluator reckons them -/
theorem appL_eq (a b : List α) : appL a b = a ++ b := by
  induction a with
  | nil => rfl
  | cons x a ih => exact congrArg (x :: ·) ih
theorem lenL_eq (a : List α) : lenL a = a.length := by
  induction a with
  | nil => rfl
  | cons x a ih => exact congrArg Nat.succ ih
theorem dropL_eq (n : Nat) : ∀ l : List α, dropL n l = l.drop n := by
  induction n with
  | zero => intro l; rfl
  | succ n ih => intro l; cases l with
    | nil => rfl
    | cons x l => exact ih l
theorem takeL_eq (n : Nat) : ∀ l : List α, takeL n l = l.take n := by
  induction n with
  | zero => intro l; cases l <;> rfl
  | succ n ih => intro l; cases l with
    | nil => rfl
    | cons x l => exact congrArg (x :: ·) (ih l)
theorem nth_eq (d : α) : ∀ (l : List α) (n : Nat), nth d l n = l.getD n d := by
  intro l
  induction l with
  | nil => intro n; simp [nth]
  | cons x l ih => intro n; cases n with
    | zero => rfl
    | succ n => have := ih n; simp only [List.getD_cons_succ]; exact this
theorem fN_eq (n : Nat) (k : Nat → β) : fN n k = k n := by cases n <;> rfl
theorem fI_eq (n : Int) (k : Int → β) : fI n k = k n := by
  cases n with
  | ofNat a => exact fN_eq a fun a => k (Int.ofNat a)
  | negSucc a => exact fN_eq a fun a => k (Int.negSucc a)
theorem allL_eq (f : α → Bool) (l : List α) : allL f l = l.all f := by
  induction l with
  | nil => rfl
  | cons x l ih =>
    have : allL f (x :: l) = cond (f x) (allL f l) false := rfl
    rw [this, ih, List.all_cons]; cases f x <;> rfl
theorem eqL_eq (a : List Nat) : ∀ b, eqL a b = (a == b) := by
  induction a with
  | nil => intro b; cases b <;> rfl
  | cons x a ih => intro b; cases b with
    | nil => rfl
    | cons y b =>
      have : eqL (x :: a) (y :: b) = cond (Nat.beq x y) (eqL a b) false := rfl
      rw [this, ih, List.cons_beq_cons]
      have hb : Nat.beq x y = (x == y) := by rw [beqN]; rfl
      rw [hb]; cases (x == y)
      · rfl
      · rfl
theorem putL_get (l : List AV) : ∀ (o : Nat) (t : Tr AV) (j : Nat), (putL l o t).get .junk (toP j) = if o ≤ j ∧ j < o + l.length then l.getD (j - o) .junk else t.get .junk (toP j) := by
  induction l with
  | nil => intro o t j; rw [if_neg (by rw [List.length_nil]; omega)]; rfl
  | cons x l ih =>
    intro o t j
    have e : putL (x :: l) o t = putL l (o + 1) (t.set .junk x (toP o)) := by
      show fN o (fun i => putL l (Nat.succ i) (t.set .junk x (toP i))) = _
      rw [fN_eq]
    rw [e, ih]
    by_cases h1 : o + 1 ≤ j ∧ j < o + 1 + l.length
    · rw [if_pos h1, if_pos (by simp; omega)]
      have : j - o = (j - (o + 1)) + 1 := by omega
      rw [this, List.getD_cons_succ]
    · rw [if_neg h1]
      by_cases h2 : j = o
      · subst h2
        rw [Tr.get_set_self, if_pos (by simp)]; simp
      · rw [Tr.get_set_other _ _ _ _ _ (toP_ne (Ne.symm h2)), if_neg (by simp; omega)]
theorem getL_eq (c : Tr AV) (n : Nat) : ∀ o, getL c n o = (List.range n).map fun j => c.get .junk (toP (o + j)) := by
  induction n with
  | zero => intro o; rfl
  | succ n ih =>
    intro o
    have e : getL c (n + 1) o = c.get .junk (toP o) :: getL c n (o + 1) := rfl
    rw [e, ih, List.range_succ_eq_map, List.map_cons, List.map_map]
    congr 1
    apply List.map_congr_left
    intro j _
    simp [Nat.add_assoc, Nat.add_comm 1 j]

/-! ### Where a block lies -/
/-- A block's number in the model's memory, where it begins there, how many cells that block has, and how many cells an element has. -/
structure Pl where
  cb : Nat
  base : Nat
  size : Nat
  z : Nat
abbrev Mp := Nat → Option Pl
def Mp.le (M M' : Mp) : Prop := ∀ b p, M b = some p → M' b = some p
theorem Mp.le.refl (M : Mp) : M.le M := fun _ _ h => h
theorem Mp.le.trans {A B C : Mp} (h : A.le B) (k : B.le C) : A.le C := fun b p e => k b p (h b p e)

mutual
inductive VRel (M : Mp) : AV → Value → Prop
  | junk (v : Value) : VRel M .junk v
  | bool (b : Bool) : VRel M (.bool b) (.bool b)
  | int (k : IntKind) (n : Int) : VRel M (.int k n) (.int k n)
  | str (s : ByteArray) : VRel M (.str (natsOf s)) (.string s)
  | ptr0 : VRel M .ptr0 (.pointer none)
  | ptr {b off : Nat} {p : Pl} (h : M b = some p) : VRel M (.ptr b off) (.pointer (some ⟨p.cb, p.base + off, none⟩))
  | sl0 : VRel M .sl0 (.slice none 0 0)
  | sl {b off len ccap : Nat} {cap : Option Nat} {p : Pl} {a : Addr} (h : M b = some p) (hl : len ≤ ccap) (hm : ccap ≤ 9223372036854775807)
      (hk : ∀ c, cap = some c → ccap = c) (ha : ccap ≠ 0 → a = ⟨p.cb, p.base + off, none⟩) (hz : cap = none → p.base + off + ccap * p.z ≤ p.size) : VRel M (.sl b off len cap) (.slice (some a) len ccap)
  | map0 : VRel M .map0 (.map none)
  | mp {b : Nat} {p : Pl} (h : M b = some p) : VRel M (.mp b) (.map (some p.cb))
  | func (fn : Fn) {a c : List AV} {a' c' : Array Value} (ha : LRel M a a'.toList) (hc : LRel M c c'.toList) : VRel M (.func fn a c) (.func fn a' c')
  | func0 : VRel M .func0 .nilFunc
  | ifc (t : Nat) {v : AV} {v' : Value} (h : VRel M v v') : VRel M (.ifc t v) (.iface t v')
  | ifc0 : VRel M .ifc0 .nilIface
  | agg {l : List AV} {l' : Array Value} (h : LRel M l l'.toList) : VRel M (.agg l) (.agg l')
  | tup {l : List AV} {l' : Array Value} (h : LRel M l l'.toList) : VRel M (.tup l) (.tuple l')
inductive LRel (M : Mp) : List AV → List Value → Prop
  | nil : LRel M [] []
  | cons {x : AV} {y : Value} {l : List AV} {l' : List Value} (h : VRel M x y) (t : LRel M l l') : LRel M (x :: l) (y :: l')
end

mutual
theorem VRel.mono {M M' : Mp} (hM : M.le M') : ∀ {v : AV} {v' : Value}, VRel M v v' → VRel M' v v'
  | _, _, .junk v => .junk v
  | _, _, .bool b => .bool b
  | _, _, .int k n => .int k n
  | _, _, .str s => .str s
  | _, _, .ptr0 => .ptr0
  | _, _, .ptr h => .ptr (hM _ _ h)
  | _, _, .sl0 => .sl0
  | _, _, .sl h hl hm hk ha hz => .sl (hM _ _ h) hl hm hk ha hz
  | _, _, .map0 => .map0
  | _, _, .mp h => .mp (hM _ _ h)
  | _, _, .func fn ha hc => .func fn (LRel.mono hM ha) (LRel.mono hM hc)
  | _, _, .func0 => .func0
  | _, _, .ifc t h => .ifc t (VRel.mono hM h)
  | _, _, .ifc0 => .ifc0
  | _, _, .agg h => .agg (LRel.mono hM h)
  | _, _, .tup h => .tup (LRel.mono hM h)
theorem LRel.mono {M M' : Mp} (hM : M.le M') : ∀ {l : List AV} {l' : List Value}, LRel M l l' → LRel M' l l'
  | _, _, .nil => .nil
  | _, _, .cons h t => .cons (VRel.mono hM h) (LRel.mono hM t)
end

theorem LRel.length {M : Mp} : ∀ {l : List AV} {l' : List Value}, LRel M l l' → l'.length = l.length
  | _, _, .nil => rfl
  | _, _, .cons _ t => by simp [LRel.length t]
theorem LRel.app {M : Mp} {b : List AV} {b' : List Value} (hb : LRel M b b') : ∀ {a : List AV} {a' : List Value}, LRel M a a' → LRel M (a ++ b) (a' ++ b')
  | _, _, .nil => hb
  | _, _, .cons h t => .cons h (LRel.app hb t)
theorem LRel.drop {M : Mp} : ∀ (n : Nat) {l : List AV} {l' : List Value}, LRel M l l' → LRel M (l.drop n) (l'.drop n)
  | 0, _, _, h => h
  | _ + 1, _, _, .nil => .nil
  | n + 1, _, _, .cons _ t => LRel.drop n t
theorem LRel.take {M : Mp} : ∀ (n : Nat) {l : List AV} {l' : List Value}, LRel M l l' → LRel M (l.take n) (l'.take n)
  | 0, _, _, _ => .nil
  | _ + 1, _, _, .nil => .nil
  | n + 1, _, _, .cons h t => .cons h (LRel.take n t)
theorem LRel.get {M : Mp} : ∀ {l : List AV} {l' : List Value} (_ : LRel M l l') (n : Nat) (v' : Value), l'[n]? = some v' → VRel M (l.getD n .junk) v'
  | _, _, .nil, n, v', h => by simp at h
  | _, _, .cons h t, 0, v', e => by simp at e; subst e; exact h
  | _, _, .cons _ t, n + 1, v', e => by simp at e; simpa using LRel.get t n v' e
theorem LRel.of_get {M : Mp} : ∀ {l : List AV} {l' : List Value}, l'.length = l.length → (∀ n v', l'[n]? = some v' → VRel M (l.getD n .junk) v') → LRel M l l'
  | [], [], _, _ => .nil
  | [], _ :: _, h, _ => by simp at h
  | _ :: _, [], h, _ => by simp at h
  | x :: l, y :: l', h, hg => .cons (by simpa using hg 0 y rfl) (LRel.of_get (by simpa using h) (fun n v' e => by simpa using hg (n + 1) v' (by simpa using e)))

/-- A value that lies in one cell. -/
theorem VRel.one {M : Mp} {v : AV} {v' : Value} (h : VRel M v v') (h1 : v.one = true) : v'.oneCell' = true := by
  cases h <;> first | rfl | cases h1
theorem VRel.cells {M : Mp} {v : AV} {v' : Value} (h : VRel M v v') (h1 : v ≠ .junk) : LRel M v.cells v'.cells.toList := by
  cases h with
  | junk => exact absurd rfl h1
  | agg h => exact h
  | tup h => exact .cons (.tup h) .nil
  | bool b => exact .cons (.bool b) .nil
  | int k n => exact .cons (.int k n) .nil
  | str s => exact .cons (.str s) .nil
  | ptr0 => exact .cons .ptr0 .nil
  | ptr h => exact .cons (.ptr h) .nil
  | sl0 => exact .cons .sl0 .nil
  | sl h hl hm hk ha hz => exact .cons (.sl h hl hm hk ha hz) .nil
  | map0 => exact .cons .map0 .nil
  | mp h => exact .cons (.mp h) .nil
  | func fn ha hc => exact .cons (.func fn ha hc) .nil
  | func0 => exact .cons .func0 .nil
  | ifc t h => exact .cons (.ifc t h) .nil
  | ifc0 => exact .cons .ifc0 .nil
end Go.Ev
namespace Go.Ev
open Go Go.RowKit
variable {α β : Type}

theorem natsOf_size (s : ByteArray) : (natsOf s).length = s.size := by simp [natsOf]
theorem AH.alloc_eq (h : AH) (b : Blk) (k : Nat → AH → β) : h.alloc b k = k h.next ⟨Tr.set .none b (toP h.next) h.blks, h.next + 1⟩ := by
  cases h with
  | mk bs n => exact fN_eq n fun n => k n ⟨Tr.set .none b (toP n) bs, Nat.succ n⟩
theorem AH.at_alloc_self (h : AH) (b : Blk) (n : Nat) : (⟨Tr.set .none b (toP h.next) h.blks, n⟩ : AH).at_ h.next = b := Tr.get_set_self _ _ _ _
theorem AH.at_alloc_other (h : AH) (b : Blk) (n : Nat) {c : Nat} (hc : c ≠ h.next) : (⟨Tr.set .none b (toP h.next) h.blks, n⟩ : AH).at_ c = h.at_ c := Tr.get_set_other _ _ _ _ _ (toP_ne (Ne.symm hc))
theorem AH.at_put_self (h : AH) (b : Nat) (x : Blk) : (h.put b x).at_ b = x := Tr.get_set_self _ _ _ _
theorem AH.at_put_other (h : AH) {b c : Nat} (x : Blk) (hc : c ≠ b) : (h.put b x).at_ c = h.at_ c := Tr.get_set_other _ _ _ _ _ (toP_ne (Ne.symm hc))

section
variable (P : Program)

inductive ERel (M : Mp) : List (AV × AV) → List MapEntry → Prop
  | nil : ERel M [] []
  | cons {k v : AV} {e : MapEntry} {l : List (AV × AV)} {l' : List MapEntry} (hk : VRel M k e.key) (hv : VRel M v e.val) (t : ERel M l l') : ERel M ((k, v) :: l) (e :: l')
theorem ERel.mono {M M' : Mp} (hM : M.le M') : ∀ {l : List (AV × AV)} {l' : List MapEntry}, ERel M l l' → ERel M' l l'
  | _, _, .nil => .nil
  | _, _, .cons hk hv t => .cons (hk.mono hM) (hv.mono hM) (ERel.mono hM t)

/-- A block of the evaluator's against what lies at its place. -/
def BRel (M : Mp) (o : Option Obj) (p : Pl) : Blk → Prop
  | .none => True
  | .cells c n e z => ∃ arr f, o = some (.cells arr e f) ∧ arr.size = p.size ∧ P.cellsOf e = p.z ∧ p.base + n ≤ arr.size ∧
      (∀ i, i < n → ∃ v, arr[p.base + i]? = some v ∧ VRel M (c.get .junk (toP i)) v) ∧ (z = false → ∀ i, p.base ≤ i → i < arr.size → ¬ (f.1 ≤ i ∧ i < f.2))
  | .map es => ∃ es' clock, o = some (.map es' clock) ∧ ERel M es es'.toList
  | .iter rest pos => ∃ s, o = some (.stringIter s pos) ∧ rest = (natsOf s).drop pos ∧ pos ≤ s.size ∧ p.base = 0
theorem BRel.mono {M M' : Mp} (hM : M.le M') {o : Option Obj} {p : Pl} {b : Blk} (h : BRel P M o p b) : BRel P M' o p b := by
  cases b with
  | none => trivial
  | cells c n e z =>
    obtain ⟨arr, f, h1, h2, h3, h4, h5, h6⟩ := h
    exact ⟨arr, f, h1, h2, h3, h4, fun i hi => let ⟨v, a, b⟩ := h5 i hi; ⟨v, a, b.mono hM⟩, h6⟩
  | map es => obtain ⟨es', cl, h1, h2⟩ := h; exact ⟨es', cl, h1, h2.mono hM⟩
  | iter r n => exact h

/-- n: the number from which on blocks are the call's own; g: the blocks that are not yet there in the model. -/
structure Bd where
  n : Nat
  g : Nat → Prop
/-- The whole memory. -/
structure HRel (B : Bd) (M : Mp) (h : AH) (w : World) : Prop where
  blk : ∀ b p, M b = some p → h.at_ b ≠ .none → BRel P M w.heap[p.cb]? p (h.at_ b)
  inj : ∀ b b' p p', h.at_ b ≠ .none → h.at_ b' ≠ .none → M b = some p → M b' = some p' → p.cb = p'.cb → b = b'
  fresh : ∀ b, h.next ≤ b → M b = none
  glob : ∀ g, g < P.globals.size → ∃ s z, M g = some ⟨g, 0, s, z⟩
  own : ∀ b p, M b = some p → b < P.globals.size ∨ B.n ≤ p.cb
  big : B.n ≤ w.heap.size
  gnext : P.globals.size ≤ h.next
  ghost : ∀ b, B.g b → M b = none ∧ b < h.next

variable {P} {B : Bd} {M : Mp} {h : AH} {w : World}
theorem BRel.some_of {o : Option Obj} {p : Pl} {b : Blk} (hb : b ≠ .none) (h : BRel P M o p b) : ∃ x, o = some x := by
  cases b with
  | none => exact absurd rfl hb
  | cells c n e z => obtain ⟨arr, f, h1, _⟩ := h; exact ⟨_, h1⟩
  | map es => obtain ⟨es', cl, h1, _⟩ := h; exact ⟨_, h1⟩
  | iter r n => obtain ⟨s, h1, _⟩ := h; exact ⟨_, h1⟩
theorem HRel.lt (H : HRel P B M h w) {b : Nat} {p : Pl} (hb : h.at_ b ≠ .none) (hp : M b = some p) : p.cb < w.heap.size := by
  obtain ⟨x, hx⟩ := (H.blk b p hp hb).some_of hb
  exact (Array.getElem?_eq_some_iff.1 hx).1
/-- The heap is the same: only draws, say. -/
theorem HRel.same (H : HRel P B M h w) {w' : World} (e : w'.heap = w.heap) : HRel P B M h w' := by
  refine ⟨fun b p hp hb => ?_, H.inj, H.fresh, H.glob, H.own, by rw [e]; exact H.big, H.gnext, H.ghost⟩
  rw [e]; exact H.blk b p hp hb
/-- Where the new block lies. -/
def Mp.ext (M : Mp) (b : Nat) (p : Pl) : Mp := fun x => if x = b then some p else M x
theorem Mp.ext_le {M : Mp} {b : Nat} {p : Pl} (hb : M b = none) : M.le (M.ext b p) := by
  intro x q hx
  have : x ≠ b := fun e => by rw [e, hb] at hx; cases hx
  simp [Mp.ext, this, hx]
theorem Mp.ext_self {M : Mp} {b : Nat} {p : Pl} : M.ext b p b = some p := by simp [Mp.ext]
/-- A block is laid: whatever it is, and beside it blocks may be forgotten. -/
theorem HRel.alloc (H : HRel P B M h w) (o : Obj) (p : Pl) (hp : p.cb = w.heap.size) (x : Blk) (hx : BRel P (M.ext h.next p) (some o) p x) :
    HRel P B (M.ext h.next p) ⟨Tr.set .none x (toP h.next) h.blks, h.next + 1⟩ (w.alloc o) := by
  have hn := H.fresh h.next (Nat.le_refl _)
  have hle : M.le (M.ext h.next p) := Mp.ext_le hn
  have hsz : (w.alloc o).heap.size = w.heap.size + 1 := World.size_alloc w o
  have hmap : ∀ b q, b ≠ h.next → M.ext h.next p b = some q → M b = some q := by
    intro b q hb hq; simpa [Mp.ext, hb] using hq
  refine ⟨fun b q hq hb => ?_, fun b b' q q' hb hb' hq hq' e => ?_, fun b hb => ?_, fun g hg => ?_, fun b q hq => ?_, by rw [hsz]; have := H.big; omega, ?_, fun b hb => ?_⟩
  · by_cases e : b = h.next
    · subst e
      rw [Mp.ext_self] at hq; cases hq
      rw [AH.at_alloc_self]
      have : (w.alloc o).heap[p.cb]? = some o := by rw [hp]; show (w.heap.push o)[w.heap.size]? = _; simp
      rw [this]; exact hx
    · rw [AH.at_alloc_other _ _ _ e] at hb ⊢
      have hq0 := hmap _ _ e hq
      rw [Below.heap_alloc w o q.cb (H.lt hb hq0)]
      exact (H.blk b q hq0 hb).mono P hle
  · by_cases e1 : b = h.next
    · by_cases e2 : b' = h.next
      · rw [e1, e2]
      · rw [AH.at_alloc_other _ _ _ e2] at hb'
        have hq2 := hmap _ _ e2 hq'
        have := H.lt hb' hq2
        subst e1
        rw [Mp.ext_self] at hq; cases hq
        omega
    · rw [AH.at_alloc_other _ _ _ e1] at hb
      have hq1 := hmap _ _ e1 hq
      by_cases e2 : b' = h.next
      · have := H.lt hb hq1
        subst e2
        rw [Mp.ext_self] at hq'; cases hq'
        omega
      · rw [AH.at_alloc_other _ _ _ e2] at hb'
        exact H.inj b b' q q' hb hb' hq1 (hmap _ _ e2 hq') e
  · have hb' : h.next + 1 ≤ b := hb
    have : b ≠ h.next := by omega
    simp only [Mp.ext, this, if_false]; exact H.fresh b (by omega)
  · obtain ⟨s, z, e⟩ := H.glob g hg
    exact ⟨s, z, hle _ _ e⟩
  · by_cases e : b = h.next
    · subst e; rw [Mp.ext_self] at hq; cases hq; right; rw [hp]; exact H.big
    · exact H.own b q (hmap _ _ e hq)
  · have := H.gnext; show P.globals.size ≤ h.next + 1; omega
  · obtain ⟨h1, h2⟩ := H.ghost b hb
    have : b ≠ h.next := by omega
    exact ⟨by simp only [Mp.ext, this, if_false]; exact h1, by show b < h.next + 1; omega⟩
/-- A block is another one at its place. -/
theorem HRel.put (H : HRel P B M h w) {w' : World} {b : Nat} {p : Pl} (hp : M b = some p) (hsz : w'.heap.size = w.heap.size) (hoth : ∀ k, k ≠ p.cb → w'.heap[k]? = w.heap[k]?)
    (hal : h.at_ b ≠ .none) (x : Blk) (hx : BRel P M w'.heap[p.cb]? p x) : HRel P B M (h.put b x) w' := by
  refine ⟨fun c q hq hc => ?_, fun c c' q q' hc hc' hq hq' e => ?_, H.fresh, H.glob, H.own, by rw [hsz]; exact H.big, H.gnext, H.ghost⟩
  · by_cases e : c = b
    · subst e; rw [AH.at_put_self]; rw [hp] at hq; cases hq; exact hx
    · rw [AH.at_put_other _ _ e] at hc ⊢
      have hne : q.cb ≠ p.cb := fun e' => e (H.inj c b q p hc hal hq hp e')
      rw [hoth _ hne]; exact H.blk c q hq hc
  · have alive : ∀ d, (h.put b x).at_ d ≠ .none → h.at_ d ≠ .none := by
      intro d hd
      by_cases e : d = b
      · subst e; exact hal
      · rwa [AH.at_put_other _ _ e] at hd
    exact H.inj c c' q q' (alive c hc) (alive c' hc') hq hq' e
/-- A block is forgotten. -/
theorem HRel.kill (H : HRel P B M h w) (b : Nat) : HRel P B M (h.put b .none) w := by
  refine ⟨fun c q hq hc => ?_, fun c c' q q' hc hc' hq hq' e => ?_, H.fresh, H.glob, H.own, H.big, H.gnext, H.ghost⟩
  · by_cases e : c = b
    · subst e; rw [AH.at_put_self] at hc; exact absurd rfl hc
    · rw [AH.at_put_other _ _ e] at hc ⊢; exact H.blk c q hq hc
  · have alive : ∀ d, (h.put b .none).at_ d ≠ .none → h.at_ d ≠ .none := by
      intro d hd
      by_cases e : d = b
      · subst e; rw [AH.at_put_self] at hd; exact absurd rfl hd
      · rwa [AH.at_put_other _ _ e] at hd
    exact H.inj c c' q q' (alive c hc) (alive c' hc') hq hq' e
/-- A forgotten block's place goes on under a new number. -/
theorem HRel.move (H : HRel P B M h w) {w' : World} {b : Nat} {p q : Pl} (hp : M b = some p) (hq : q.cb = p.cb) (hB : B.n ≤ p.cb) (hsz : w'.heap.size = w.heap.size) (hoth : ∀ k, k ≠ p.cb → w'.heap[k]? = w.heap[k]?)
    (hal : h.at_ b ≠ .none) (x : Blk) (hx : BRel P (M.ext h.next q) w'.heap[p.cb]? q x) :
    HRel P B (M.ext h.next q) ⟨Tr.set .none x (toP h.next) (h.put b .none).blks, h.next + 1⟩ w' := by
  have hn := H.fresh h.next (Nat.le_refl _)
  have hle : M.le (M.ext h.next q) := Mp.ext_le hn
  have hmap : ∀ c r, c ≠ h.next → M.ext h.next q c = some r → M c = some r := by
    intro c r hb hq; simpa [Mp.ext, hb] using hq
  have K := H.kill b
  have hbn : b ≠ h.next := fun e => by rw [e, hn] at hp; cases hp
  have ho : ∀ c, c ≠ h.next → (⟨Tr.set .none x (toP h.next) (h.put b .none).blks, h.next + 1⟩ : AH).at_ c = (h.put b .none).at_ c := fun c hc => AH.at_alloc_other (h.put b .none) x _ hc
  have hs : (⟨Tr.set .none x (toP h.next) (h.put b .none).blks, h.next + 1⟩ : AH).at_ h.next = x := AH.at_alloc_self (h.put b .none) x _
  have hne : ∀ c, (h.put b .none).at_ c ≠ .none → c ≠ b ∧ h.at_ c ≠ .none := by
    intro c hc
    by_cases e : c = b
    · subst e; rw [AH.at_put_self] at hc; exact absurd rfl hc
    · rw [AH.at_put_other _ _ e] at hc; exact ⟨e, hc⟩
  refine ⟨fun c r hr hc => ?_, fun c c' r r' hc hc' hr hr' e => ?_, fun c hc => ?_, fun g hg => ?_, fun c r hr => ?_, by rw [hsz]; exact H.big, ?_, fun c hc => ?_⟩
  · by_cases e : c = h.next
    · subst e; rw [Mp.ext_self] at hr; cases hr; rw [hs, hq]; exact hx
    · rw [ho c e] at hc ⊢
      have hr0 := hmap _ _ e hr
      have hr' := K.blk c r hr0 hc
      have ⟨h1, h2⟩ := hne c hc
      have : r.cb ≠ p.cb := fun e' => h1 (H.inj c b r p h2 hal hr0 hp e')
      rw [hoth _ this]; exact hr'.mono P hle
  · by_cases e1 : c = h.next
    · by_cases e2 : c' = h.next
      · rw [e1, e2]
      · rw [ho c' e2] at hc'
        have ⟨h1, h2⟩ := hne c' hc'
        subst e1; rw [Mp.ext_self] at hr; cases hr
        exact absurd (H.inj c' b r' p h2 hal (hmap _ _ e2 hr') hp (by rw [← e, hq])) h1
    · rw [ho c e1] at hc
      have ⟨h1, h2⟩ := hne c hc
      by_cases e2 : c' = h.next
      · subst e2; rw [Mp.ext_self] at hr'; cases hr'
        exact absurd (H.inj c b r p h2 hal (hmap _ _ e1 hr) hp (by rw [e, hq])) h1
      · rw [ho c' e2] at hc'
        exact H.inj c c' r r' h2 (hne c' hc').2 (hmap _ _ e1 hr) (hmap _ _ e2 hr') e
  · have hb' : h.next + 1 ≤ c := hc
    have : c ≠ h.next := by omega
    simp only [Mp.ext, this, if_false]; exact H.fresh c (by omega)
  · obtain ⟨s, z, e⟩ := H.glob g hg
    exact ⟨s, z, hle _ _ e⟩
  · by_cases e : c = h.next
    · subst e; rw [Mp.ext_self] at hr; cases hr; right; rw [hq]; exact hB
    · exact H.own c r (hmap _ _ e hr)
  · have := H.gnext; show P.globals.size ≤ h.next + 1; omega
  · obtain ⟨h1, h2⟩ := H.ghost c hc
    have : c ≠ h.next := by omega
    exact ⟨by simp only [Mp.ext, this, if_false]; exact h1, by show c < h.next + 1; omega⟩

/-! ### Reading and writing -/
theorem HRel.cells (H : HRel P B M h w) {b : Nat} {c : Tr AV} {n e : Nat} {z : Bool} (ha : h.at_ b = .cells c n e z) {p₀ : Pl} (hp : M b = some p₀) :
    ∃ p arr f, M b = some p ∧ w.heap[p.cb]? = some (.cells arr e f) ∧ arr.size = p.size ∧ P.cellsOf e = p.z ∧ p.base + n ≤ arr.size ∧
      (∀ i, i < n → ∃ v, arr[p.base + i]? = some v ∧ VRel M (c.get .junk (toP i)) v) ∧ (z = false → ∀ i, p.base ≤ i → i < arr.size → ¬ (f.1 ≤ i ∧ i < f.2)) := by
  have hr := H.blk b p₀ hp (by rw [ha]; simp)
  rw [ha] at hr
  obtain ⟨arr, f, h1, h2, h3, h4, h5, h6⟩ := hr
  exact ⟨p₀, arr, f, hp, h1, h2, h3, h4, h5, h6⟩
theorem cell_of {arr : Array Value} {e : Nat} {f : Nat × Nat} {k i : Nat} (hh : w.heap[k]? = some (.cells arr e f)) : w.cell? ⟨k, i, none⟩ = arr[i]? := by
  simp [World.cell?, hh]
theorem setCells_heap (k e : Nat) (f : Nat × Nat) : ∀ (vs : List Value) (o : Nat) (arr : Array Value) (w : World), w.heap[k]? = some (.cells arr e f) →
    ∃ arr', (w.setCells k o vs).heap[k]? = some (.cells arr' e f) ∧ arr'.size = arr.size ∧ (∀ i, i < arr.size → arr'[i]? = if o ≤ i ∧ i < o + vs.length then some (vs.getD (i - o) undef) else arr[i]?) ∧
      (w.setCells k o vs).heap.size = w.heap.size ∧ (∀ j, j ≠ k → (w.setCells k o vs).heap[j]? = w.heap[j]?) ∧ (w.setCells k o vs).os = w.os ∧ (w.setCells k o vs).tape = w.tape ∧ (w.setCells k o vs).output = w.output
  | [], o, arr, w, hh => ⟨arr, hh, rfl, fun i _ => by rw [if_neg (by rw [List.length_nil]; omega)], rfl, fun _ _ => rfl, rfl, rfl, rfl⟩
  | v :: vs, o, arr, w, hh => by
    have h1 : (w.setCell ⟨k, o, none⟩ v).heap[k]? = some (.cells (arr.setIfInBounds o v) e f) := by
      simp [World.setCell, Array.getElem?_modify, hh]
    obtain ⟨arr', a1, a2, a3, a4, a5, a6, a7, a8⟩ := setCells_heap k e f vs (o + 1) _ _ h1
    refine ⟨arr', a1, by rw [a2]; simp, fun i hi => ?_, ?_, fun j hj => ?_, a6, a7, a8⟩
    · rw [a3 i (by simpa using hi)]
      by_cases c1 : o + 1 ≤ i ∧ i < o + 1 + vs.length
      · rw [if_pos c1, if_pos (by simp; omega)]
        have : i - o = (i - (o + 1)) + 1 := by omega
        rw [this, List.getD_cons_succ]
      · rw [if_neg c1]
        by_cases c2 : i = o
        · subst c2; rw [if_pos (by simp)]; simp [hi]
        · rw [if_neg (by simp; omega), Array.getElem?_setIfInBounds_ne (Ne.symm c2)]
    · show ((w.setCell ⟨k, o, none⟩ v).setCells k (o + 1) vs).heap.size = _
      rw [a4]; simp [World.setCell]
    · show ((w.setCell ⟨k, o, none⟩ v).setCells k (o + 1) vs).heap[j]? = _
      rw [a5 j hj]; exact Below.heap_setCell w ⟨k, o, none⟩ v j hj
end
end Go.Ev
namespace Go.Ev
open Go Go.RowKit
variable {α β : Type}
section
variable (P : Program) (B : Bd) (M : Mp) (w : World)

/-- What an operation comes to, against what the model does. -/
def SN (s : Sem Next) : OR → Prop
  | .val v h' => ∃ M' v' w', s.run P w = .ok (.value v') w' ∧ M.le M' ∧ VRel M' v v' ∧ HRel P B M' h' w' ∧ Below B.n w w'
  | .skip h' => ∃ M' w', s.run P w = .ok .skip w' ∧ M.le M' ∧ HRel P B M' h' w' ∧ Below B.n w w'
  | .call f args h' => ∃ args', s.run P w = (callFunc f args').run P w ∧ LRel M args args'.toList ∧ HRel P B M h' w
  | .dfr d h' => ∃ c dargs, s.run P w = .ok (.defer ⟨.fn (.func d.f) c, dargs⟩) w ∧ LRel M d.args (dargs ++ c).toList ∧ HRel P B M h' w
  | .pan v h' => ∃ v', s.run P w = .halt (.panic v') w ∧ VRel M v v' ∧ HRel P B M h' w
  | .rcv h' => s.run P w = .ok .recover w ∧ HRel P B M h' w
  | .fail => True
/-- The same of what answers a value. -/
def SV (s : Sem Value) : OR → Prop
  | .val v h' => ∃ M' v' w', s.run P w = .ok v' w' ∧ M.le M' ∧ VRel M' v v' ∧ HRel P B M' h' w' ∧ Below B.n w w'
  | .fail => True
  | _ => False
def SU (s : Sem Unit) : OR → Prop
  | .skip h' => ∃ M' w', s.run P w = .ok () w' ∧ M.le M' ∧ HRel P B M' h' w' ∧ Below B.n w w'
  | .fail => True
  | _ => False
variable {P B M w}
theorem SV.next {s : Sem Value} {r : OR} (h : SV P B M w s r) : SN P B M w (do pure (.value (← s))) r := by
  cases r with
  | val v h' =>
    obtain ⟨M', v', w', h1, h2⟩ := h
    exact ⟨M', v', w', by rw [Sem.run_bind, h1]; rfl, h2⟩
  | fail => trivial
  | _ => exact h.elim
theorem SU.next {s : Sem Unit} {r : OR} (h : SU P B M w s r) : SN P B M w (do s; pure .skip) r := by
  cases r with
  | skip h' =>
    obtain ⟨M', w', h1, h2⟩ := h
    exact ⟨M', w', by rw [Sem.run_bind, h1]; rfl, h2⟩
  | fail => trivial
  | _ => exact h.elim
/-- A value that is there, and nothing has turned. -/
theorem SV.here {s : Sem Value} {v : AV} {v' : Value} {h : AH} (H : HRel P B M h w) (hs : s.run P w = .ok v' w) (hv : VRel M v v') : SV P B M w s (.val v h) :=
  ⟨M, v', w, hs, Mp.le.refl M, hv, H, Below.refl B.n w⟩

/-! ### whole numbers -/
theorem inU_eq (b : Nat) (n : Int) : inU b n = decide (0 ≤ n ∧ n < b) := by
  cases n with
  | ofNat a =>
    show Nat.blt a b = _
    rw [bltN, Bool.eq_iff_iff]; simp
  | negSucc a =>
    show false = _
    symm; simp
theorem inS_eq (b : Nat) (n : Int) : inS b n = decide (-(b : Int) ≤ n ∧ n < b) := by
  cases n with
  | ofNat a =>
    show Nat.blt a b = _
    rw [bltN, Bool.eq_iff_iff]; simp; try omega
  | negSucc a =>
    show Nat.blt a b = _
    rw [bltN, Bool.eq_iff_iff]; simp; try omega
theorem wrap_fits (k : IntKind) (n : Int) (h : fits k n = true) : k.wrap n = n := by
  cases k with
  | i8 => exact IntWalk.i8_in n (by have h' : inS 128 n = true := h; rw [inS_eq] at h'; simp at h'; omega)
  | i16 => exact IntWalk.i16_in n (by have h' : inS 32768 n = true := h; rw [inS_eq] at h'; simp at h'; omega)
  | i32 => exact IntWalk.i32_in n (by have h' : inS 2147483648 n = true := h; rw [inS_eq] at h'; simp at h'; omega)
  | i64 => exact IntWalk.i64_in n (by have h' : inS 9223372036854775808 n = true := h; rw [inS_eq] at h'; simp at h'; omega)
  | u8 => exact IntWalk.u8_in n (by have h' : inU 256 n = true := h; rw [inU_eq] at h'; simp at h'; omega)
  | u16 => exact IntWalk.u16_in n (by have h' : inU 65536 n = true := h; rw [inU_eq] at h'; simp at h'; omega)
  | u32 => exact IntWalk.u32_in n (by have h' : inU 4294967296 n = true := h; rw [inU_eq] at h'; simp at h'; omega)
  | u64 => exact IntWalk.u64_in n (by have h' : inU 18446744073709551616 n = true := h; rw [inU_eq] at h'; simp at h'; omega)
theorem wrapV_eq (k : IntKind) (n : Int) : wrapV k n = .int k (k.wrap n) := by
  unfold wrapV
  rw [fI_eq]
  cases h : fits k n with
  | true => rw [cond_true, wrap_fits k n h]
  | false => rw [cond_false, fI_eq]
theorem ltI_eq (a b : Int) : ltI a b = decide (a < b) := by
  cases a with
  | ofNat x => cases b with
    | ofNat y => show Nat.blt x y = _; rw [bltN, Bool.eq_iff_iff]; simp
    | negSucc y => show false = _; symm; simp; omega
  | negSucc x => cases b with
    | ofNat y => show true = _; symm; simp; omega
    | negSucc y => show Nat.blt y x = _; rw [bltN, Bool.eq_iff_iff]; simp; omega
theorem eqI_eq (a b : Int) : eqI a b = (a == b) := by
  cases a with
  | ofNat x => cases b with
    | ofNat y => show Nat.beq x y = _; rw [beqN, Bool.eq_iff_iff]; simp; omega
    | negSucc y => rfl
  | negSucc x => cases b with
    | ofNat y => rfl
    | negSucc y => show Nat.beq x y = _; rw [beqN, Bool.eq_iff_iff]; simp; try omega
theorem addI_eq (a b : Int) : addI a b = a + b := by
  cases a with
  | ofNat x => cases b with
    | ofNat y => rfl
    | negSucc y => rfl
  | negSucc x => rfl
theorem subI_eq (a b : Int) : subI a b = a - b := by
  cases a with
  | ofNat x => cases b with
    | ofNat y =>
      show cond (Nat.ble y x) (Int.ofNat (x - y)) (Int.negSucc (y - x - 1)) = _
      by_cases h : y ≤ x
      · rw [bleN, decide_eq_true h, cond_true]; simp; omega
      · rw [bleN, decide_eq_false h, cond_false]; simp; omega
    | negSucc y => rfl
  | negSucc x => rfl
theorem mulI_eq (a b : Int) : mulI a b = a * b := by
  cases a with
  | ofNat x => cases b with
    | ofNat y => rfl
    | negSucc y => rfl
  | negSucc x => rfl
theorem kIdx_inj {k k' : IntKind} (h : kIdx k = kIdx k') : k = k' := by
  cases k <;> cases k' <;> first | rfl | cases h
theorem minN_eq (a b : Nat) : minN a b = min a b := by
  unfold minN
  by_cases h : a ≤ b
  · rw [bleN, decide_eq_true h, cond_true]; omega
  · rw [bleN, decide_eq_false h, cond_false]; omega

/-- Two values that are numbers of one kind, or it isn't told. -/
theorem int2_split {a b : AV} {x y : Value} (ha : VRel M a x) (hb : VRel M b y) (d : β) (f : IntKind → Int → Int → β) :
    (∃ k n m, x = .int k n ∧ y = .int k m ∧ a = .int k n ∧ b = .int k m ∧ int2 a b d f = f k n m) ∨ int2 a b d f = d := by
  cases ha with
  | int k n => cases hb with
    | int k' m =>
      have e : int2 (.int k n) (.int k' m) d f = cond (Nat.beq (kIdx k) (kIdx k')) (f k n m) d := rfl
      rw [e, beqN]
      by_cases h : kIdx k = kIdx k'
      · have := kIdx_inj h; subst this
        rw [decide_eq_true h]
        exact .inl ⟨k, n, m, rfl, rfl, rfl, rfl, rfl⟩
      · rw [decide_eq_false h]; exact .inr rfl
    | _ => exact .inr rfl
  | _ => exact .inr rfl
theorem nat2_split (n m : Int) (d : β) (f : Nat → Nat → β) : (∃ x y : Nat, n = Int.ofNat x ∧ m = Int.ofNat y ∧ nat2 n m d f = f x y) ∨ nat2 n m d f = d := by
  cases n with
  | ofNat x => cases m with
    | ofNat y => exact .inl ⟨x, y, rfl, rfl, rfl⟩
    | negSucc y => exact .inr rfl
  | negSucc x => exact .inr rfl
/-- What is asked ahead of '==' is nothing at numbers and texts. -/
theorem eqGuard_int (op : BinOp) (t : TypeId) (X Y : Operand) (k k' : IntKind) (n m : Int) (w : World) : (eqGuard op t X Y (.int k n) (.int k' m)).run P w = .ok () w := by
  unfold eqGuard; cases op <;> rfl
theorem eqGuard_str (op : BinOp) (t : TypeId) (X Y : Operand) (a b : ByteArray) (w : World) : (eqGuard op t X Y (.string a) (.string b)).run P w = .ok () w := by
  unfold eqGuard; cases op <;> rfl

abbrev binS (op : BinOp) (t : TypeId) (X Y : Operand) (x y : Value) : Sem Value := do eqGuard op t X Y x y; binOp op t x y
theorem binS_int {op : BinOp} {t : TypeId} {X Y : Operand} {k k' : IntKind} {n m : Int} {v : Value} (e : binOp op t (.int k n) (.int k' m) = pure v) (w : World) : (binS op t X Y (.int k n) (.int k' m)).run P w = .ok v w := by
  show (eqGuard op t X Y _ _ >>= fun _ => binOp op t _ _).run P w = _
  rw [Sem.run_bind, eqGuard_int, Result.andThen_ok, e]; rfl
theorem binS_str {op : BinOp} {t : TypeId} {X Y : Operand} {a b : ByteArray} {v : Value} (e : binOp op t (.string a) (.string b) = pure v) (w : World) : (binS op t X Y (.string a) (.string b)).run P w = .ok v w := by
  show (eqGuard op t X Y _ _ >>= fun _ => binOp op t _ _).run P w = _
  rw [Sem.run_bind, eqGuard_str, Result.andThen_ok, e]; rfl

section ops
variable {t : TypeId} {X Y : Operand} {a b : AV} {x y : Value} {h : AH} (ha : VRel M a x) (hb : VRel M b y) (H : HRel P B M h w)
include ha hb H
theorem sub_sound : SV P B M w (binS .sub t X Y x y) (arith subI a b h) := by
  unfold arith
  rcases int2_split ha hb .fail (fun k n m => OR.val (wrapV k (subI n m)) h) with ⟨k, n, m, rfl, rfl, rfl, rfl, e⟩ | e <;> rw [e]
  · rw [wrapV_eq, subI_eq]
    exact .here H (binS_int (by simp [binOp, Op.intArith]) w) (.int k _)
  · trivial
theorem mul_sound : SV P B M w (binS .mul t X Y x y) (arith mulI a b h) := by
  unfold arith
  rcases int2_split ha hb .fail (fun k n m => OR.val (wrapV k (mulI n m)) h) with ⟨k, n, m, rfl, rfl, rfl, rfl, e⟩ | e <;> rw [e]
  · rw [wrapV_eq, mulI_eq]
    exact .here H (binS_int (by simp [binOp, Op.intArith]) w) (.int k _)
  · trivial
theorem quo_sound : SV P B M w (binS .quo t X Y x y) (quoOp a b h) := by
  unfold quoOp
  rcases int2_split ha hb .fail (fun k n m => nat2 n m OR.fail fun x y => cond (Nat.beq y 0) .fail (.val (wrapV k (Int.ofNat (Nat.div x y))) h)) with ⟨k, n, m, rfl, rfl, rfl, rfl, e⟩ | e <;> rw [e]
  · rcases nat2_split n m OR.fail (fun x y => cond (Nat.beq y 0) .fail (.val (wrapV k (Int.ofNat (Nat.div x y))) h)) with ⟨u, v, rfl, rfl, e⟩ | e <;> rw [e]
    · rw [beqN]
      by_cases h0 : v = 0
      · rw [decide_eq_true h0]; trivial
      · rw [decide_eq_false h0, cond_false, wrapV_eq]
        refine .here H (binS_int ?_ w) (.int k _)
        have h0' : ¬ (Int.ofNat v = 0) := by simpa using h0
        simp only [binOp, ne_eq, not_true_eq_false, if_false, Op.intDiv, h0']
        rfl
    · trivial
  · trivial
theorem rem_sound : SV P B M w (binS .rem t X Y x y) (remOp a b h) := by
  unfold remOp
  rcases int2_split ha hb .fail (fun k n m => nat2 n m OR.fail fun x y => cond (Nat.beq y 0) .fail (fN (Nat.mod x y) fun r => .val (.int k (Int.ofNat r)) h)) with ⟨k, n, m, rfl, rfl, rfl, rfl, e⟩ | e <;> rw [e]
  · rcases nat2_split n m OR.fail (fun x y => cond (Nat.beq y 0) .fail (fN (Nat.mod x y) fun r => .val (.int k (Int.ofNat r)) h)) with ⟨u, v, rfl, rfl, e⟩ | e <;> rw [e]
    · rw [beqN]
      by_cases h0 : v = 0
      · rw [decide_eq_true h0]; trivial
      · rw [decide_eq_false h0, cond_false, fN_eq]
        refine .here H (binS_int ?_ w) (.int k _)
        have h0' : ¬ (Int.ofNat v = 0) := by simpa using h0
        simp only [binOp, ne_eq, not_true_eq_false, if_false, Op.intDiv, h0']
        rfl
    · trivial
  · trivial
end ops

theorem wrap_mod (k : IntKind) (n : Nat) : k.wrap ((n % 2 ^ k.bits : Nat) : Int) = k.wrap (n : Int) := by
  unfold IntKind.wrap
  have e : ((n % 2 ^ k.bits : Nat) : Int) % (2 ^ k.bits : Int) = (n : Int) % (2 ^ k.bits : Int) := by
    have : ((2 ^ k.bits : Nat) : Int) = (2 : Int) ^ k.bits := by simp
    rw [Int.natCast_emod, this, Int.emod_emod_of_dvd _ (Int.dvd_refl _)]
  simp only [e]
theorem ofInt_toNat (b x : Nat) : (BitVec.ofInt b (Int.ofNat x)).toNat = x % 2 ^ b := by
  rw [show (Int.ofNat x) = ((x : Nat) : Int) from rfl, BitVec.ofInt_natCast, BitVec.toNat_ofNat]

section ops
variable {t : TypeId} {X Y : Operand} {a b : AV} {x y : Value} {h : AH} (ha : VRel M a x) (hb : VRel M b y) (H : HRel P B M h w)
include ha hb H
theorem nat_sound (op : BinOp) (g : Nat → Nat → Nat) (hg : ∀ (k : IntKind) (u v : Nat), binOp op t (.int k (Int.ofNat u)) (.int k (Int.ofNat v)) = pure (.int k (k.wrap (Int.ofNat (g u v))))) : SV P B M w (binS op t X Y x y) (natOp g a b h) := by
  unfold natOp
  rcases int2_split ha hb .fail (fun k n m => nat2 n m OR.fail fun x y => .val (wrapV k (Int.ofNat (g x y))) h) with ⟨k, n, m, rfl, rfl, rfl, rfl, e⟩ | e <;> rw [e]
  · rcases nat2_split n m OR.fail (fun x y => .val (wrapV k (Int.ofNat (g x y))) h) with ⟨u, v, rfl, rfl, e⟩ | e <;> rw [e]
    · rw [wrapV_eq]
      exact .here H (binS_int (hg k u v) w) (.int k _)
    · trivial
  · trivial
theorem and_sound : SV P B M w (binS .and t X Y x y) (natOp Nat.land a b h) := by
  refine nat_sound ha hb H .and Nat.land fun k u v => ?_
  simp only [binOp, ne_eq, not_true_eq_false, if_false, Op.intBits, BitVec.toNat_and, ofInt_toNat]
  rw [← Nat.and_mod_two_pow, wrap_mod]; rfl
theorem or_sound : SV P B M w (binS .or t X Y x y) (natOp Nat.lor a b h) := by
  refine nat_sound ha hb H .or Nat.lor fun k u v => ?_
  simp only [binOp, ne_eq, not_true_eq_false, if_false, Op.intBits, BitVec.toNat_or, ofInt_toNat]
  rw [← Nat.or_mod_two_pow, wrap_mod]; rfl
theorem xor_sound : SV P B M w (binS .xor t X Y x y) (natOp Nat.xor a b h) := by
  refine nat_sound ha hb H .xor Nat.xor fun k u v => ?_
  simp only [binOp, ne_eq, not_true_eq_false, if_false, Op.intBits, BitVec.toNat_xor, ofInt_toNat]
  rw [← Nat.xor_mod_two_pow, wrap_mod]; rfl
theorem shl_sound : SV P B M w (binS .shl t X Y x y) (shlOp a b h) := by
  unfold shlOp
  cases ha with
  | int k n => cases hb with
    | int k' m =>
      show SV P B M w _ (nat2 n m OR.fail fun x y => .val (wrapV k (Int.ofNat (Nat.mul x (Nat.pow 2 (minN y k.bits))))) h)
      rcases nat2_split n m OR.fail (fun x y => .val (wrapV k (Int.ofNat (Nat.mul x (Nat.pow 2 (minN y k.bits))))) h) with ⟨u, v, rfl, rfl, e⟩ | e <;> rw [e]
      · rw [wrapV_eq, minN_eq]
        refine .here H (binS_int ?_ w) (.int k _)
        have h0 : ¬ (Int.ofNat v < 0) := by simp
        simp only [binOp, Op.shift, h0, if_false]
        congr 3
      · trivial
    | _ => trivial
  | _ => trivial
theorem shr_sound : SV P B M w (binS .shr t X Y x y) (shrOp a b h) := by
  unfold shrOp
  cases ha with
  | int k n => cases hb with
    | int k' m =>
      show SV P B M w _ (nat2 n m OR.fail fun x y => fN (Nat.div x (Nat.pow 2 (minN y k.bits))) fun r => .val (.int k (Int.ofNat r)) h)
      rcases nat2_split n m OR.fail (fun x y => fN (Nat.div x (Nat.pow 2 (minN y k.bits))) fun r => .val (.int k (Int.ofNat r)) h) with ⟨u, v, rfl, rfl, e⟩ | e <;> rw [e]
      · rw [fN_eq, minN_eq]
        refine .here H (binS_int ?_ w) (.int k _)
        have h0 : ¬ (Int.ofNat v < 0) := by simp
        simp only [binOp, Op.shift, h0, if_false]
        congr 2
        have e2 : ((2 ^ min (Int.ofNat v).toNat k.bits : Nat) : Int) = (2 : Int) ^ min (Int.ofNat v).toNat k.bits := by simp
        rw [← e2]; exact (Int.ofNat_fdiv _ _).symm
      · trivial
    | _ => trivial
  | _ => trivial
end ops
end
end Go.Ev
