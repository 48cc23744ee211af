/- An evaluator of the model's code over abstract values: what it reckons with. -/
import GoSem.Step
namespace Go.Ev
open Go

/-! ### Keys and tables -/
inductive P where
  | h
  | o (p : P)
  | i (p : P)

noncomputable def toPf (f : Nat) : Nat → P :=
  Nat.rec (motive := fun _ => Nat → P) (fun _ => .h) (fun _ ih n => cond (Nat.beq n 0) .h (cond (Nat.beq (Nat.mod n 2) 1) (.o (ih (Nat.div n 2))) (.i (ih (Nat.sub (Nat.div n 2) 1))))) f
noncomputable def toP (n : Nat) : P := toPf n n

inductive Tr (α : Type) where
  | nil
  | node (l : Tr α) (v : α) (r : Tr α)

variable {α β : Type}
noncomputable def Tr.root (d : α) (t : Tr α) : α := Tr.rec (motive := fun _ => α) d (fun _ v _ _ _ => v) t
noncomputable def Tr.left (t : Tr α) : Tr α := Tr.rec (motive := fun _ => Tr α) .nil (fun l _ _ _ _ => l) t
noncomputable def Tr.right (t : Tr α) : Tr α := Tr.rec (motive := fun _ => Tr α) .nil (fun _ _ r _ _ => r) t
noncomputable def Tr.get (d : α) (p : P) : Tr α → α :=
  P.rec (motive := fun _ => Tr α → α) (Tr.root d) (fun _ ih t => ih t.left) (fun _ ih t => ih t.right) p
noncomputable def Tr.set (d x : α) (p : P) : Tr α → Tr α :=
  P.rec (motive := fun _ => Tr α → Tr α)
    (fun t => Tr.rec (motive := fun _ => Tr α) (.node .nil x .nil) (fun l _ r _ _ => .node l x r) t)
    (fun _ ih t => Tr.rec (motive := fun _ => Tr α) (.node (ih .nil) d .nil) (fun l v r _ _ => .node (ih l) v r) t)
    (fun _ ih t => Tr.rec (motive := fun _ => Tr α) (.node .nil d (ih .nil)) (fun l v r _ _ => .node l v (ih r)) t) p

/-! ### Values -/
inductive AV where
  | junk
  | bool (b : Bool)
  | int (k : IntKind) (n : Int)
  | str (l : List Nat)
  | ptr0
  | ptr (b off : Nat)
  | sl0
  | sl (b off len : Nat) (cap : Option Nat)
  | map0
  | mp (b : Nat)
  | func (fn : Fn) (first captured : List AV)
  | func0
  | ifc (t : Nat) (v : AV)
  | ifc0
  | agg (l : List AV)
  | tup (l : List AV)

namespace AV
noncomputable def elimBool (v : AV) (d : β) (f : Bool → β) : β := AV.casesOn (motive_1 := fun _ => β) v d f (fun _ _ => d) (fun _ => d) d (fun _ _ => d) d (fun _ _ _ _ => d) d (fun _ => d) (fun _ _ _ => d) d (fun _ _ => d) d (fun _ => d) (fun _ => d)
noncomputable def elimInt (v : AV) (d : β) (f : IntKind → Int → β) : β := AV.casesOn (motive_1 := fun _ => β) v d (fun _ => d) f (fun _ => d) d (fun _ _ => d) d (fun _ _ _ _ => d) d (fun _ => d) (fun _ _ _ => d) d (fun _ _ => d) d (fun _ => d) (fun _ => d)
noncomputable def elimStr (v : AV) (d : β) (f : List Nat → β) : β := AV.casesOn (motive_1 := fun _ => β) v d (fun _ => d) (fun _ _ => d) f d (fun _ _ => d) d (fun _ _ _ _ => d) d (fun _ => d) (fun _ _ _ => d) d (fun _ _ => d) d (fun _ => d) (fun _ => d)
noncomputable def elimPtr (v : AV) (d : β) (f : Nat → Nat → β) : β := AV.casesOn (motive_1 := fun _ => β) v d (fun _ => d) (fun _ _ => d) (fun _ => d) d f d (fun _ _ _ _ => d) d (fun _ => d) (fun _ _ _ => d) d (fun _ _ => d) d (fun _ => d) (fun _ => d)
noncomputable def elimSl (v : AV) (d : β) (f0 : β) (f : Nat → Nat → Nat → Option Nat → β) : β := AV.casesOn (motive_1 := fun _ => β) v d (fun _ => d) (fun _ _ => d) (fun _ => d) d (fun _ _ => d) f0 f d (fun _ => d) (fun _ _ _ => d) d (fun _ _ => d) d (fun _ => d) (fun _ => d)
noncomputable def elimTup (v : AV) (d : β) (f : List AV → β) : β := AV.casesOn (motive_1 := fun _ => β) v d (fun _ => d) (fun _ _ => d) (fun _ => d) d (fun _ _ => d) d (fun _ _ _ _ => d) d (fun _ => d) (fun _ _ _ => d) d (fun _ _ => d) d (fun _ => d) f
noncomputable def elimAgg (v : AV) (d : β) (f : List AV → β) : β := AV.casesOn (motive_1 := fun _ => β) v d (fun _ => d) (fun _ _ => d) (fun _ => d) d (fun _ _ => d) d (fun _ _ _ _ => d) d (fun _ => d) (fun _ _ _ => d) d (fun _ _ => d) d f (fun _ => d)
/-- The cells of a value. -/
noncomputable def cells (v : AV) : List AV := v.elimAgg [v] id
/-- May it lie in one cell? -/
noncomputable def one (v : AV) : Bool := AV.casesOn (motive_1 := fun _ => Bool) v false (fun _ => true) (fun _ _ => true) (fun _ => true) true (fun _ _ => true) true (fun _ _ _ _ => true) true (fun _ => true) (fun _ _ _ => true) true (fun _ _ => true) true (fun _ => false) (fun _ => false)
end AV

inductive Blk where
  | none
  | cells (c : Tr AV) (n : Nat) (elem : Nat) (frz : Bool)
  | map (es : List (AV × AV))
  | iter (rest : List Nat) (pos : Nat)

structure AH where
  blks : Tr Blk
  next : Nat

/-- A deferred call: of a function's number, with what. -/
structure ADef where
  f : Nat
  args : List AV

noncomputable def nth (d : α) (l : List α) (n : Nat) : α := List.rec (motive := fun _ => Nat → α) (fun _ => d) (fun x _ ih n => Nat.rec (motive := fun _ => α) x (fun m _ => ih m) n) l n
noncomputable def fN (n : Nat) (k : Nat → β) : β := Nat.rec (motive := fun _ => β) (k 0) (fun m _ => k (Nat.succ m)) n

/-! ### Constants -/
noncomputable def natsOf (s : ByteArray) : List Nat := s.data.toList.map UInt8.toNat
noncomputable def ofConst0 (v : Value) : AV :=
  match v with
  | .bool b => .bool b
  | .int k n => .int k n
  | .string s => .str (natsOf s)
  | .pointer none => .ptr0
  | .slice none 0 0 => .sl0
  | .map none => .map0
  | .nilFunc => .func0
  | .nilIface => .ifc0
  | _ => .junk
noncomputable def ofConst (v : Value) : AV :=
  match v with
  | .agg cs => .agg (cs.toList.map ofConst0)
  | .tuple cs => .tup (cs.toList.map ofConst0)
  | .iface t x => .ifc t (ofConst0 x)
  | v => ofConst0 v

noncomputable def evO (x : Operand) (τ : Tr AV) : AV :=
  Operand.rec (motive := fun _ => AV) (fun t => τ.get .junk (toP t)) (fun v => ofConst v) (fun g => .ptr g 0) (fun f => .func (.func f) [] []) x

/-! ### What an operation comes to -/
inductive OR where
  | val (v : AV) (h : AH)
  | skip (h : AH)
  | call (f : Nat) (args : List AV) (h : AH)
  | dfr (d : ADef) (h : AH)
  | pan (v : AV) (h : AH)
  | rcv (h : AH)
  | fail

/-! #### whole numbers -/
noncomputable def inU (b : Nat) (n : Int) : Bool := Int.rec (motive := fun _ => Bool) (fun a => Nat.blt a b) (fun _ => false) n
noncomputable def inS (b : Nat) (n : Int) : Bool := Int.rec (motive := fun _ => Bool) (fun a => Nat.blt a b) (fun a => Nat.blt a b) n
noncomputable def fits (k : IntKind) (n : Int) : Bool :=
  IntKind.rec (motive := fun _ => Bool) (inS 128 n) (inS 32768 n) (inS 2147483648 n) (inS 9223372036854775808 n) (inU 256 n) (inU 65536 n) (inU 4294967296 n) (inU 18446744073709551616 n) k
noncomputable def fI (n : Int) (f : Int → β) : β := Int.rec (motive := fun _ => β) (fun a => fN a fun a => f (Int.ofNat a)) (fun a => fN a fun a => f (Int.negSucc a)) n
noncomputable def wrapV (k : IntKind) (n : Int) : AV := fI n fun n => cond (fits k n) (.int k n) (fI (k.wrap n) fun m => .int k m)

noncomputable def kIdx (k : IntKind) : Nat := IntKind.rec (motive := fun _ => Nat) 0 1 2 3 4 5 6 7 k
/-- Two whole numbers of one kind. -/
noncomputable def int2 (a b : AV) (d : β) (f : IntKind → Int → Int → β) : β := a.elimInt d fun k n => b.elimInt d fun k' m => cond (Nat.beq (kIdx k) (kIdx k')) (f k n m) d
noncomputable def arith (g : Int → Int → Int) (a b : AV) (h : AH) : OR := int2 a b .fail fun k n m => .val (wrapV k (g n m)) h
noncomputable def ltI (a b : Int) : Bool :=
  Int.rec (motive := fun _ => Bool) (fun x => Int.rec (motive := fun _ => Bool) (fun y => Nat.blt x y) (fun _ => false) b) (fun x => Int.rec (motive := fun _ => Bool) (fun _ => true) (fun y => Nat.blt y x) b) a
noncomputable def eqI (a b : Int) : Bool :=
  Int.rec (motive := fun _ => Bool) (fun x => Int.rec (motive := fun _ => Bool) (fun y => Nat.beq x y) (fun _ => false) b) (fun x => Int.rec (motive := fun _ => Bool) (fun _ => false) (fun y => Nat.beq x y) b) a
noncomputable def addI (a b : Int) : Int :=
  Int.rec (motive := fun _ => Int) (fun x => Int.rec (motive := fun _ => Int) (fun y => Int.ofNat (Nat.add x y)) (fun y => Int.add (Int.ofNat x) (Int.negSucc y)) b) (fun x => Int.add (Int.negSucc x) b) a
noncomputable def subI (a b : Int) : Int :=
  Int.rec (motive := fun _ => Int) (fun x => Int.rec (motive := fun _ => Int) (fun y => cond (Nat.ble y x) (Int.ofNat (Nat.sub x y)) (Int.negSucc (Nat.sub (Nat.sub y x) 1))) (fun y => Int.sub (Int.ofNat x) (Int.negSucc y)) b) (fun x => Int.sub (Int.negSucc x) b) a
noncomputable def mulI (a b : Int) : Int :=
  Int.rec (motive := fun _ => Int) (fun x => Int.rec (motive := fun _ => Int) (fun y => Int.ofNat (Nat.mul x y)) (fun y => Int.mul (Int.ofNat x) (Int.negSucc y)) b) (fun x => Int.mul (Int.negSucc x) b) a
noncomputable def nat2 (n m : Int) (d : β) (f : Nat → Nat → β) : β := Int.rec (motive := fun _ => β) (fun x => Int.rec (motive := fun _ => β) (fun y => f x y) (fun _ => d) m) (fun _ => d) n
/-- Two numbers not below 0; anything else is not done. -/
noncomputable def natOp (g : Nat → Nat → Nat) (a b : AV) (h : AH) : OR := int2 a b .fail fun k n m => nat2 n m .fail fun x y => .val (wrapV k (Int.ofNat (g x y))) h
noncomputable def quoOp (a b : AV) (h : AH) : OR := int2 a b .fail fun k n m => nat2 n m .fail fun x y => cond (Nat.beq y 0) .fail (.val (wrapV k (Int.ofNat (Nat.div x y))) h)
noncomputable def remOp (a b : AV) (h : AH) : OR := int2 a b .fail fun k n m => nat2 n m .fail fun x y => cond (Nat.beq y 0) .fail (fN (Nat.mod x y) fun r => .val (.int k (Int.ofNat r)) h)
noncomputable def minN (a b : Nat) : Nat := cond (Nat.ble a b) a b
noncomputable def shlOp (a b : AV) (h : AH) : OR := a.elimInt .fail fun k n => b.elimInt .fail fun _ m => nat2 n m .fail fun x y => .val (wrapV k (Int.ofNat (Nat.mul x (Nat.pow 2 (minN y k.bits))))) h
noncomputable def shrOp (a b : AV) (h : AH) : OR := a.elimInt .fail fun k n => b.elimInt .fail fun _ m => nat2 n m .fail fun x y => fN (Nat.div x (Nat.pow 2 (minN y k.bits))) fun r => .val (.int k (Int.ofNat r)) h

/-! #### texts -/
noncomputable def eqL (a : List Nat) : List Nat → Bool :=
  List.rec (motive := fun _ => List Nat → Bool) (fun b => List.rec (motive := fun _ => Bool) true (fun _ _ _ => false) b)
    (fun x _ ih b => List.rec (motive := fun _ => Bool) false (fun y t _ => cond (Nat.beq x y) (ih t) false) b) a
/-- a is ahead of b. -/
noncomputable def ltL (a : List Nat) : List Nat → Bool :=
  List.rec (motive := fun _ => List Nat → Bool) (fun b => List.rec (motive := fun _ => Bool) false (fun _ _ _ => true) b)
    (fun x _ ih b => List.rec (motive := fun _ => Bool) false (fun y t _ => cond (Nat.blt x y) true (cond (Nat.beq x y) (ih t) false)) b) a
noncomputable def appL (a b : List α) : List α := List.rec (motive := fun _ => List α) b (fun x _ ih => x :: ih) a
noncomputable def lenL (a : List α) : Nat := List.rec (motive := fun _ => Nat) 0 (fun _ _ ih => Nat.succ ih) a
noncomputable def dropL (n : Nat) : List α → List α := Nat.rec (motive := fun _ => List α → List α) (fun l => l) (fun _ ih l => List.rec (motive := fun _ => List α) [] (fun _ t _ => ih t) l) n
noncomputable def takeL (n : Nat) : List α → List α := Nat.rec (motive := fun _ => List α → List α) (fun _ => []) (fun _ ih l => List.rec (motive := fun _ => List α) [] (fun x t _ => x :: ih t) l) n
/-- The whole list is reckoned now. -/
noncomputable def fL (l : List Nat) (k : List Nat → β) : β := List.rec (motive := fun _ => (List Nat → β) → β) (fun k => k []) (fun x _ ih k => fN x fun x => ih fun t => k (x :: t)) l k

/-! #### are two values of a type the same? (none: it isn't told; c: one of the two is written) -/
noncomputable def isPtr0 (a : AV) : Option Bool := match a with | .ptr0 => some true | .ptr _ _ => some false | _ => none
noncomputable def eqT (P : Program) (c : Bool) (t : Nat) (a b : AV) : Option Bool :=
  match P.underlying t with
  | some .bool => a.elimBool none fun x => b.elimBool none fun y => some (x == y)
  | some (.pointer e) => (match a, b with
    | .ptr0, .ptr0 => some true
    | .ptr0, .ptr _ _ => some false
    | .ptr _ _, .ptr0 => some false
    | .ptr x o, .ptr y u => Option.rec (motive := fun _ => Option Bool) none (fun i => cond (Nat.beq i.size 0) none (cond (Nat.beq x y) (some (Nat.beq o u)) none)) (P.info? e)
    | _, _ => none)
  | some (.slice _) => (match a, b with
    | .sl0, .sl0 => some true
    | .sl0, .sl _ _ _ _ => some false
    | .sl _ _ _ _, .sl0 => some false
    | _, _ => none)
  | some (.map _ _) => (match a, b with
    | .map0, .map0 => some true
    | .map0, .mp _ => some false
    | .mp _, .map0 => some false
    | _, _ => none)
  | some (.func _ _ _) => (match a, b with
    | .func0, .func0 => some true
    | .func0, .func _ _ _ => some false
    | .func _ _ _, .func0 => some false
    | _, _ => none)
  | some (.interface _) => (match a, b with
    | .ifc0, .ifc0 => cond c (some true) none
    | .ifc0, .ifc _ _ => some false
    | .ifc _ _, .ifc0 => some false
    | _, _ => none)
  | _ => none
/-! #### a comparison -/
noncomputable def eqOp (P : Program) (c : Bool) (t : Nat) (neg : Bool) (a b : AV) (h : AH) : OR :=
  a.elimInt (a.elimStr (Option.rec (motive := fun _ => OR) .fail (fun r => .val (.bool (cond neg (not r) r)) h) (eqT P c t a b)) fun l => b.elimStr .fail fun m => .val (.bool (cond neg (not (eqL l m)) (eqL l m))) h)
    fun k n => b.elimInt .fail fun k' m => cond (Nat.beq (kIdx k) (kIdx k')) (.val (.bool (cond neg (not (eqI n m)) (eqI n m))) h) .fail
noncomputable def cmpOp (f : Int → Int → Bool) (g : List Nat → List Nat → Bool) (a b : AV) (h : AH) : OR :=
  a.elimInt (a.elimStr .fail fun l => b.elimStr .fail fun m => .val (.bool (g l m)) h) fun k n => b.elimInt .fail fun k' m => cond (Nat.beq (kIdx k) (kIdx k')) (.val (.bool (f n m)) h) .fail
noncomputable def addOp (a b : AV) (h : AH) : OR :=
  a.elimInt (a.elimStr .fail fun l => b.elimStr .fail fun m => cond (Nat.ble (Nat.add (lenL l) (lenL m)) 1000000) (.val (.str (appL l m)) h) .fail) fun k n => b.elimInt .fail fun k' m => cond (Nat.beq (kIdx k) (kIdx k')) (.val (wrapV k (addI n m)) h) .fail
noncomputable def leL (a b : List Nat) : Bool := not (ltL b a)
noncomputable def gtI (a b : Int) : Bool := ltI b a
noncomputable def gtL (a b : List Nat) : Bool := ltL b a
noncomputable def leI (a b : Int) : Bool := not (ltI b a)
noncomputable def geI (a b : Int) : Bool := not (ltI a b)
noncomputable def geL (a b : List Nat) : Bool := not (ltL a b)
noncomputable def noV : AV → AV → AH → OR := fun _ _ _ => .fail
noncomputable def binV (P : Program) (c : Bool) (t : Nat) (op : BinOp) : AV → AV → AH → OR :=
  BinOp.rec (motive := fun _ => AV → AV → AH → OR)
    addOp (arith subI) (arith mulI) quoOp remOp (natOp Nat.land) (natOp Nat.lor) (natOp Nat.xor) shlOp shrOp noV
    (eqOp P c t false) (eqOp P c t true) (cmpOp ltI ltL) (cmpOp leI leL) (cmpOp gtI gtL) (cmpOp geI geL) op
noncomputable def unV (op : UnOp) (a : AV) (h : AH) : OR :=
  match op with
  | .neg => a.elimInt .fail fun k n => .val (wrapV k (subI 0 n)) h
  | .not => a.elimBool .fail fun b => .val (.bool (not b)) h
  | _ => .fail
end Go.Ev
namespace Go.Ev
open Go
variable {α β : Type}

/-! ### Memory -/
noncomputable def AH.alloc (h : AH) (b : Blk) (k : Nat → AH → β) : β :=
  AH.rec (motive := fun _ => β) (fun bs n => fN n fun n => k n ⟨Tr.set .none b (toP n) bs, Nat.succ n⟩) h
noncomputable def AH.at_ (h : AH) (b : Nat) : Blk := h.blks.get .none (toP b)
noncomputable def AH.put (h : AH) (b : Nat) (x : Blk) : AH := ⟨Tr.set .none x (toP b) h.blks, h.next⟩
noncomputable def Blk.elimCells (b : Blk) (d : β) (f : Tr AV → Nat → Nat → Bool → β) : β := Blk.rec (motive := fun _ => β) d f (fun _ => d) (fun _ _ => d) b
noncomputable def Blk.elimMap (b : Blk) (d : β) (f : List (AV × AV) → β) : β := Blk.rec (motive := fun _ => β) d (fun _ _ _ _ => d) f (fun _ _ => d) b
noncomputable def Blk.elimIter (b : Blk) (d : β) (f : List Nat → Nat → β) : β := Blk.rec (motive := fun _ => β) d (fun _ _ _ _ => d) (fun _ => d) f b

noncomputable def putL (l : List AV) : Nat → Tr AV → Tr AV :=
  List.rec (motive := fun _ => Nat → Tr AV → Tr AV) (fun _ t => t) (fun x _ ih i t => fN i fun i => ih (Nat.succ i) (t.set .junk x (toP i))) l
noncomputable def getL (c : Tr AV) (n : Nat) : Nat → List AV :=
  Nat.rec (motive := fun _ => Nat → List AV) (fun _ => []) (fun _ ih i => c.get .junk (toP i) :: ih (Nat.succ i)) n
noncomputable def allL (f : α → Bool) (l : List α) : Bool := List.rec (motive := fun _ => Bool) true (fun x _ ih => cond (f x) ih false) l

/-! ### Types -/
section
variable (P : Program)
noncomputable def sizeA (t : Nat) (d : β) (f : Nat → β) : β := Option.rec (motive := fun _ => β) d (fun i => f i.size) (P.info? t)
noncomputable def bytesA (t : Nat) (d : β) (f : Nat → β) : β := Option.rec (motive := fun _ => β) d (fun i => f i.bytes) (P.info? t)
noncomputable def zeroA (t : Nat) (d : β) (f : AV → β) : β := Option.rec (motive := fun _ => β) d (fun i => Option.rec (motive := fun _ => β) d (fun z => f (ofConst z)) i.zero) (P.info? t)
noncomputable def isAggD (d : TypeDesc) : Bool := match d with | .struct _ => true | .array _ _ => true | _ => false
noncomputable def aggA (t : Nat) (d : β) (yes no : β) : β := Option.rec (motive := fun _ => β) d (fun x => cond (isAggD x) yes no) (P.underlying t)
noncomputable def ptrA (t : Nat) (d : β) (f : Nat → β) : β := match P.underlying t with | some (.pointer e) => f e | _ => d
noncomputable def sliceA (t : Nat) (d : β) (f : Nat → β) : β := match P.underlying t with | some (.slice e) => f e | _ => d

/-! ### Operations on memory -/
noncomputable def allocOp (t : Nat) (h : AH) : OR := zeroA P t .fail fun z => h.alloc (.cells (putL z.cells 0 .nil) (lenL z.cells) t false) fun b h => .val (.ptr b 0) h
noncomputable def boxOp (t : Nat) (v : AV) (h : AH) : OR := cond (allL AV.one v.cells) (h.alloc (.cells (putL v.cells 0 .nil) (lenL v.cells) t false) fun b h => .val (.ptr b 0) h) .fail
noncomputable def loadV (t : Nat) (a : AV) (h : AH) (d : β) (k : AV → β) : β :=
  a.elimPtr d fun b o => (h.at_ b).elimCells d fun c n _ _ =>
    aggA P t d (sizeA P t d fun s => cond (Nat.ble (Nat.add o s) n) (k (.agg (getL c s o))) d) (cond (Nat.blt o n) (k (c.get .junk (toP o))) d)
noncomputable def loadOp (t : Nat) (a : AV) (h : AH) : OR := loadV P t a h .fail fun v => .val v h
/-- Cells are written. -/
noncomputable def AH.write (h : AH) (b o : Nat) (l : List AV) (d : β) (k : AH → β) : β :=
  (h.at_ b).elimCells d fun c n e z => cond z d (cond (Nat.blt b P.globals.size) d (cond (allL AV.one l) (cond (Nat.ble (Nat.add o (lenL l)) n) (k (h.put b (.cells (putL l o c) n e z))) d) d))
noncomputable def storeOp (t : Nat) (a v : AV) (h : AH) : OR :=
  a.elimPtr .fail fun b o => sizeA P t .fail fun s => cond (Nat.beq s (lenL v.cells)) (h.write P b o v.cells .fail fun h => .skip h) .fail
noncomputable def fieldAddrOp (t : Nat) (a : AV) (f : Nat) (h : AH) : OR :=
  match P.underlying t with
  | some (.struct fs) => Option.rec (motive := fun _ => OR) .fail (fun x => a.elimPtr .fail fun b o => sizeA P x.type .fail fun s => cond (Nat.beq s 0) .fail (fN (Nat.add o x.offset) fun o => .val (.ptr b o) h)) (nth none (fs.toList.map some) f)
  | _ => .fail
noncomputable def natA (v : AV) (d : β) (f : Nat → β) : β := v.elimInt d fun _ n => Int.rec (motive := fun _ => β) f (fun _ => d) n
noncomputable def indexAddrOp (t : Nat) (x i : AV) (h : AH) : OR :=
  match P.underlying t with
  | some (.slice e) => natA i .fail fun i => x.elimSl .fail .fail fun b o n _ => cond (Nat.blt i n) (sizeA P e .fail fun s => fN (Nat.add o (Nat.mul i s)) fun o => .val (.ptr b o) h) .fail
  | some (.array n e) => natA i .fail fun i => x.elimPtr .fail fun b o => cond (Nat.blt i n) (sizeA P e .fail fun s => fN (Nat.add o (Nat.mul i s)) fun o => .val (.ptr b o) h) .fail
  | _ => .fail
noncomputable def partA (t : Nat) (cs : List AV) (o : Nat) (d : β) (k : AV → β) : β :=
  aggA P t d (sizeA P t d fun s => cond (Nat.ble (Nat.add o s) (lenL cs)) (k (.agg (takeL s (dropL o cs)))) d) (cond (Nat.blt o (lenL cs)) (k (nth .junk cs o)) d)
noncomputable def indexOp (t : Nat) (x i : AV) (h : AH) : OR :=
  match P.underlying t with
  | some .string => natA i .fail fun i => x.elimStr .fail fun l => cond (Nat.blt i (lenL l)) (.val (.int .u8 (Int.ofNat (nth 0 l i))) h) .fail
  | some (.array n e) => natA i .fail fun i => x.elimAgg .fail fun cs => cond (Nat.blt i n) (sizeA P e .fail fun s => partA P e cs (Nat.mul i s) .fail fun v => .val v h) .fail
  | _ => .fail
noncomputable def fieldOp (t : Nat) (x : AV) (f : Nat) (h : AH) : OR :=
  match P.underlying t with
  | some (.struct fs) => Option.rec (motive := fun _ => OR) .fail (fun y => x.elimAgg .fail fun cs => partA P y.type cs y.offset .fail fun v => .val v h) (nth none (fs.toList.map some) f)
  | _ => .fail
/-- The bounds of a cut. -/
noncomputable def bound (x : Option AV) (d : Nat) (f : β) (k : Nat → β) : β := Option.rec (motive := fun _ => β) (k d) (fun v => natA v f k) x
/-- low, high and greatest, of a row of so many, with room for so many. -/
noncomputable def bounds3 (n c : Nat) (lo hi mx : Option AV) (d : β) (k : Nat → Nat → Nat → β) : β :=
  Option.rec (motive := fun _ => β) (bound hi n d fun b => cond (Nat.ble b c) (bound lo 0 d fun a => cond (Nat.ble a b) (k a b c) d) d)
    (fun m => natA m d fun m => cond (Nat.ble m c) (Option.rec (motive := fun _ => β) d (fun b => natA b d fun b => cond (Nat.ble b m) (bound lo 0 d fun a => cond (Nat.ble a b) (k a b m) d) d) hi) d) mx
noncomputable def sliceStr (x : AV) (lo hi mx : Option AV) (h : AH) : OR :=
  Option.rec (motive := fun _ => OR) (x.elimStr .fail fun l => bounds3 (lenL l) (lenL l) lo hi none .fail fun a b _ => .val (.str (takeL (Nat.sub b a) (dropL a l))) h) (fun _ => .fail) mx
noncomputable def sliceSl (e : Nat) (x : AV) (lo hi mx : Option AV) (h : AH) : OR :=
  x.elimSl .fail (sizeA P e .fail fun _ => bounds3 0 0 lo hi mx .fail fun _ _ _ => .val .sl0 h)
    fun id o n cap => sizeA P e .fail fun s => Option.rec (motive := fun _ => OR)
      (Option.rec (motive := fun _ => OR) ((h.at_ id).elimCells .fail fun _ _ e' _ => cond (Nat.beq e' e) (bounds3 n n lo hi none .fail fun a b _ => fN (Nat.add o (Nat.mul a s)) fun o => fN (Nat.sub b a) fun n => .val (.sl id o n none) h) .fail)
        (fun m => bounds3 n n lo hi (some m) .fail fun a b m => fN (Nat.add o (Nat.mul a s)) fun o => fN (Nat.sub b a) fun n => .val (.sl id o n (some (Nat.sub m a))) h) mx)
      (fun c => bounds3 n c lo hi mx .fail fun a b m => fN (Nat.add o (Nat.mul a s)) fun o => fN (Nat.sub b a) fun n => .val (.sl id o n (some (Nat.sub m a))) h) cap
noncomputable def sliceArr (n e : Nat) (x : AV) (lo hi mx : Option AV) (h : AH) : OR :=
  cond (Nat.ble n 1000000) (x.elimPtr .fail fun id o => sizeA P e .fail fun s => bounds3 n n lo hi mx .fail fun a b m => fN (Nat.add o (Nat.mul a s)) fun o => .val (.sl id o (Nat.sub b a) (some (Nat.sub m a))) h) .fail
noncomputable def sliceOp (t : Nat) (x : AV) (lo hi mx : Option AV) (h : AH) : OR :=
  match P.underlying t with
  | some .string => sliceStr x lo hi mx h
  | some (.slice e) => sliceSl P e x lo hi mx h
  | some (.array n e) => sliceArr P n e x lo hi mx h
  | _ => .fail
noncomputable def byteA (v : AV) (d : β) (f : Nat → β) : β := v.elimInt d fun k n => cond (Nat.beq (kIdx k) 4) (Int.rec (motive := fun _ => β) f (fun _ => d) n) d
noncomputable def bytesL (l : List AV) (d : β) (k : List Nat → β) : β :=
  List.rec (motive := fun _ => (List Nat → β) → β) (fun k => k []) (fun x _ ih k => byteA x d fun n => cond (Nat.blt n 256) (fN n fun n => ih fun t => k (n :: t)) d) l k
noncomputable def u8s (l : List Nat) : List AV := List.rec (motive := fun _ => List AV) [] (fun x _ ih => .int .u8 (Int.ofNat x) :: ih) l
noncomputable def slCells (x : AV) (s : Nat) (h : AH) (d : β) (k : List AV → Nat → β) : β :=
  x.elimSl (x.elimStr d fun l => cond (Nat.beq s 1) (k (u8s l) (lenL l)) d) (k [] 0) fun b o n _ => cond (Nat.beq n 0) (k [] 0) ((h.at_ b).elimCells d fun c m _ _ => cond (Nat.ble (Nat.add o (Nat.mul n s)) m) (k (getL c (Nat.mul n s) o) n) d)
noncomputable def convOp (src dst : Nat) (x : AV) (h : AH) : OR :=
  match P.underlying src, P.underlying dst with
  | some (.int _), some (.int k) => x.elimInt .fail fun _ n => .val (wrapV k n) h
  | some .string, some .string => x.elimStr .fail fun _ => .val x h
  | some .string, some (.slice e) => (match P.underlying e with
    | some (.int .u8) => x.elimStr .fail fun l => sizeA P e .fail fun s => cond (cond (Nat.beq s 1) (Nat.ble (lenL l) 1000000) false) (h.alloc (.cells (putL (u8s l) 0 .nil) (lenL l) e false) fun b h => .val (.sl b 0 (lenL l) none) h) .fail
    | _ => .fail)
  | some (.slice e), some .string => (match P.underlying e with
    | some (.int .u8) => x.elimSl .fail (.val (.str []) h) fun _ _ _ _ => slCells x 1 h .fail fun l _ => bytesL l .fail fun l => .val (.str l) h
    | _ => .fail)
  | _, _ => .fail
/-- So many times the same cells. -/
noncomputable def repT (z : List AV) (s n : Nat) : Tr AV := Nat.rec (motive := fun _ => Tr AV) .nil (fun i ih => putL z (Nat.mul i s) ih) n
noncomputable def makeSliceOp (t : Nat) (n c : AV) (h : AH) : OR :=
  sliceA P t .fail fun e => natA n .fail fun n => natA c .fail fun c => cond (Nat.ble n c) (bytesA P e .fail fun w => cond (cond (Nat.ble c 1048576) (Nat.ble (Nat.mul w c) 1048576) false) (sizeA P e .fail fun s => zeroA P e .fail fun z => cond (Nat.beq s (lenL z.cells)) (
    h.alloc (.cells (repT z.cells s c) (Nat.mul c s) e false) fun b h => .val (.sl b 0 n (some c)) h) .fail) .fail) .fail
noncomputable def fillA (place : Nat → Option (Nat × Nat)) (cs : List AV) (parts : List (Nat × AV)) : Option (List AV) :=
  List.rec (motive := fun _ => List AV → Option (List AV)) (fun cs => some cs)
    (fun x _ ih cs => Option.rec (motive := fun _ => Option (List AV)) none (fun os => cond (Nat.beq (lenL x.2.cells) os.2) (cond (Nat.ble (Nat.add os.1 os.2) (lenL cs)) (cond (allL AV.one x.2.cells) (ih (appL (takeL os.1 cs) (appL x.2.cells (dropL (Nat.add os.1 os.2) cs)))) none) none) none) (place x.1)) parts cs
noncomputable def placesL (fs : List Field) : Option (List (Nat × Nat)) :=
  List.rec (motive := fun _ => Option (List (Nat × Nat))) (some []) (fun f _ ih => sizeA P f.type none fun s => Option.rec (motive := fun _ => Option (List (Nat × Nat))) none (fun l => some ((f.offset, s) :: l)) ih) fs
noncomputable def buildOp (t : Nat) (parts : List (Nat × AV)) (h : AH) : OR :=
  zeroA P t .fail fun z => (match P.underlying t with
  | some (.struct fs) => Option.rec (motive := fun _ => OR) .fail (fun ps => Option.rec (motive := fun _ => OR) .fail (fun cs => .val (.agg cs) h) (fillA (nth none (ps.map some)) z.cells parts)) (placesL P fs.toList)
  | some (.array _ e) => sizeA P e .fail fun s => Option.rec (motive := fun _ => OR) .fail (fun cs => .val (.agg cs) h) (fillA (fun i => some (Nat.mul i s, s)) z.cells parts)
  | _ => .fail)
/-- Parts of a slice: straight into the new block. -/
noncomputable def fillT (s n : Nat) (parts : List (Nat × AV)) : Tr AV → Option (Tr AV) :=
  List.rec (motive := fun _ => Tr AV → Option (Tr AV)) some
    (fun x _ ih t => cond (Nat.beq (lenL x.2.cells) s) (cond (allL AV.one x.2.cells) (cond (Nat.blt x.1 n) (ih (putL x.2.cells (Nat.mul x.1 s) t)) none) none) none) parts
noncomputable def buildSliceOp (t n : Nat) (parts : List (Nat × AV)) (h : AH) : OR :=
  sliceA P t .fail fun e => sizeA P e .fail fun s => cond (cond (Nat.ble n 100000) (Nat.ble (Nat.mul n s) 100000) false) (zeroA P e .fail fun z => cond (Nat.beq s (lenL z.cells)) (
    Option.rec (motive := fun _ => OR) .fail (fun c => h.alloc (.cells c (Nat.mul n s) e false) fun b h => .val (.sl b 0 n (some n)) h)
      (fillT s n parts (repT z.cells s n))) .fail) .fail

/-! ### append, copy, len and others -/
noncomputable def room (n e : Nat) (d : β) (k : β) : β := bytesA P e d fun w => cond (cond (Nat.ble n 1000000) (Nat.ble (Nat.mul n w) 1048576) false) k d
/-- A row that grows, of which so much is known. -/
noncomputable def growT (c : Tr AV) (o l z : Nat) (new : List AV) : Tr AV := putL new (Nat.mul l z) (cond (Nat.beq o 0) c (putL (getL c (Nat.mul l z) o) 0 .nil))
noncomputable def appendOpen (e z b o l _n m : Nat) (new : List AV) (h : AH) : OR :=
  (h.at_ b).elimCells .fail fun c k e' f => cond f .fail (cond (Nat.blt b P.globals.size) .fail (cond (cond (Nat.beq e' e) (Nat.ble (Nat.add o (Nat.mul l z)) k) false)
    ((h.put b .none).alloc (.cells (growT c o l z new) (Nat.mul m z) e false) fun b h => .val (.sl b 0 m none) h) .fail))
noncomputable def appendKnown (e z b o l _n m c : Nat) (new : List AV) (h : AH) : OR :=
  cond (Nat.ble m c) (h.write P b (Nat.add o (Nat.mul l z)) new .fail fun h => .val (.sl b o m (some c)) h)
    (cond (Nat.beq l 0) (h.alloc (.cells (putL new 0 .nil) (Nat.mul m z) e false) fun b h => .val (.sl b 0 m none) h)
      ((h.at_ b).elimCells .fail fun t k _ _ => cond (Nat.ble (Nat.add o (Nat.mul l z)) k) (h.alloc (.cells (growT t o l z new) (Nat.mul m z) e false) fun b h => .val (.sl b 0 m none) h) .fail))
noncomputable def append2 (e z : Nat) (s : AV) (new : List AV) (n : Nat) (h : AH) : OR :=
  s.elimSl .fail (room P n e .fail (h.alloc (.cells (putL new 0 .nil) (Nat.mul n z) e false) fun b h => .val (.sl b 0 n none) h))
    fun b o l cap => fN (Nat.add l n) fun m => room P m e .fail (Option.rec (motive := fun _ => OR) (appendOpen P e z b o l n m new h) (fun c => appendKnown P e z b o l n m c new h) cap)
noncomputable def notInt (t : Nat) (d k : β) : β := match P.underlying t with | none => d | some (.int _) => d | _ => k
noncomputable def appendOp (ts : List Nat) (args : List AV) (h : AH) : OR :=
  match ts, args with
  | [t0, t1], [s, x] => notInt P t1 .fail (sliceA P t0 .fail fun e => sizeA P e .fail fun z => zeroA P e .fail fun zv => cond (Nat.beq z (lenL zv.cells)) (slCells x z h .fail fun new n => cond (Nat.beq n 0) (s.elimSl .fail (.val s h) fun _ _ _ _ => .val s h) (cond (allL AV.one new) (append2 P e z s new n h) .fail)) .fail)
  | _, _ => .fail
noncomputable def copyOp (ts : List Nat) (args : List AV) (h : AH) : OR :=
  match ts, args with
  | t0 :: _ :: _, [d, x] => sliceA P t0 .fail fun e => sizeA P e .fail fun z => slCells x z h .fail fun new n =>
    d.elimSl .fail (.val (.int .i64 (Int.ofNat 0)) h) fun b o l _ => fN (minN n l) fun m => cond (Nat.beq m 0) (.val (.int .i64 (Int.ofNat 0)) h) (h.write P b o (takeL (Nat.mul m z) new) .fail fun h => .val (.int .i64 (Int.ofNat m)) h)
  | _, _ => .fail
noncomputable def lenOp (t : Nat) (x : AV) (h : AH) : OR :=
  match P.underlying t with
  | some .string => x.elimStr .fail fun l => .val (.int .i64 (Int.ofNat (lenL l))) h
  | some (.slice _) => x.elimSl .fail (.val (.int .i64 (Int.ofNat 0)) h) fun _ _ n _ => .val (.int .i64 (Int.ofNat n)) h
  | some (.array n _) => .val (.int .i64 (Int.ofNat n)) h
  | some (.map _ _) => (match x with
    | .map0 => .val (.int .i64 (Int.ofNat 0)) h
    | .mp b => (h.at_ b).elimMap .fail fun es => .val (.int .i64 (Int.ofNat (lenL es))) h
    | _ => .fail)
  | _ => .fail
noncomputable def capOp (t : Nat) (x : AV) (h : AH) : OR :=
  match P.underlying t with
  | some (.slice _) => x.elimSl .fail (.val (.int .i64 (Int.ofNat 0)) h) fun _ _ _ c => Option.rec (motive := fun _ => OR) .fail (fun c => .val (.int .i64 (Int.ofNat c)) h) c
  | _ => .fail
noncomputable def minMax (mx : Bool) (l : List AV) (h : AH) : OR :=
  List.rec (motive := fun _ => OR) .fail (fun x t _ => x.elimInt .fail fun k n => List.rec (motive := fun _ => Int → OR) (fun n => .val (.int k n) h) (fun y _ ih n => y.elimInt .fail fun _ m => ih (cond (cond mx (ltI n m) (ltI m n)) m n)) t n) l
noncomputable def panicOp (v : AV) (h : AH) : OR := match v with | .ifc t v => .pan (.ifc t v) h | _ => .fail
noncomputable def emptyStr (x : AV) (h : AH) : OR := match x with | .ptr0 => .val (.str []) h | .ptr _ _ => .val (.str []) h | _ => .fail
noncomputable def unsafeStringOp (t : Nat) (x n : AV) (h : AH) : OR :=
  natA n .fail fun n => cond (Nat.beq n 0) (emptyStr x h)
    (x.elimPtr .fail fun b o => (h.at_ b).elimCells .fail fun c m e _ => cond (Nat.blt b P.globals.size) .fail (cond (cond (Nat.ble n 1000000) (Nat.ble (Nat.add o n) m) false) (ptrA P t .fail fun u => sizeA P e .fail fun s => cond (cond (Nat.beq s 1) (Nat.beq u e) false) (bytesL (getL c n o) .fail fun l => .val (.str l) (h.put b (.cells c m e true))) .fail) .fail))
noncomputable def sliceDataOp (x : AV) (h : AH) : OR := x.elimSl .fail (.val .ptr0 h) fun b o n _ => cond (Nat.beq n 0) .fail (.val (.ptr b o) h)
noncomputable def arg1 (args : List AV) (f : AV → OR) : OR := match args with | [x] => f x | _ => .fail
noncomputable def builtinOp (b : Builtin) (ts : List Nat) (args : List AV) (h : AH) : OR :=
  match b with
  | .len => arg1 args fun x => Option.rec (motive := fun _ => OR) .fail (fun t => lenOp P t x h) (nth none (ts.map some) 0)
  | .append => appendOp P ts args h
  | .copy => copyOp P ts args h
  | .cap => arg1 args fun x => Option.rec (motive := fun _ => OR) .fail (fun t => capOp P t x h) (nth none (ts.map some) 0)
  | .min => minMax false args h
  | .max => minMax true args h
  | .panic => arg1 args fun x => panicOp x h
  | .recover => .rcv h
  | .unsafeSliceData => arg1 args fun x => sliceDataOp x h
  | .unsafeString => (match args with | [x, n] => Option.rec (motive := fun _ => OR) .fail (fun t => unsafeStringOp P t x n h) (nth none (ts.map some) 0) | _ => .fail)
  | _ => .fail
noncomputable def callV (f : AV) (args : List AV) (h : AH) : OR :=
  match f with
  | .func (.func g) first cap => .call g (appL first (appL args cap)) h
  | _ => .fail
noncomputable def mapL (τ : Tr AV) (l : List Operand) : List AV := List.rec (motive := fun _ => List AV) [] (fun x _ ih => evO x τ :: ih) l
noncomputable def callOp (c : Call) (τ : Tr AV) (h : AH) : OR :=
  Callee.rec (motive := fun _ => OR) (fun f => callV (evO f τ) (mapL τ c.args.toList) h) (fun _ _ => .fail) (fun b => builtinOp P b c.argTypes.toList (mapL τ c.args.toList) h) c.callee
noncomputable def deferOp (c : Call) (τ : Tr AV) (h : AH) : OR :=
  match c.callee with
  | .value f => (match evO f τ with
    | .func (.func g) first cap => .dfr ⟨g, appL first (appL (mapL τ c.args.toList) cap)⟩ h
    | _ => .fail)
  | _ => .fail
noncomputable def nilCheckOp (x : AV) (h : AH) : OR :=
  match x with
  | .ptr b o => .val (.ptr b o) h
  | .func (.func g) a c => .val (.func (.func g) a c) h
  | _ => .fail
noncomputable def extractOp (x : AV) (i : Nat) (h : AH) : OR := x.elimTup .fail fun l => cond (Nat.blt i (lenL l)) (.val (nth .junk l i) h) .fail
noncomputable def rangeOp (t : Nat) (x : AV) (h : AH) : OR :=
  match P.underlying t with
  | some .string => x.elimStr .fail fun l => h.alloc (.iter l 0) fun b h => .val (.ptr b 0) h
  | _ => .fail
noncomputable def nextOp (x : AV) (s : Bool) (h : AH) : OR :=
  x.elimPtr .fail fun b o => cond (cond (Nat.blt b P.globals.size) false (Nat.beq o 0)) ((h.at_ b).elimIter .fail fun l p => cond s
    (List.rec (motive := fun _ => OR) (.val (.tup [.bool false]) h) (fun x t _ => cond (Nat.blt x 128) (fN (Nat.succ p) fun q => .val (.tup [.bool true, .int .i64 (Int.ofNat p), .int .i32 (Int.ofNat x)]) (h.put b (.iter t q))) .fail) l) .fail) .fail
noncomputable def makeIfcOp (t : Nat) (x : AV) (h : AH) : OR := match P.underlying t with | some (.interface _) => .fail | none => .fail | _ => .val (.ifc t x) h
/-! ### Maps, of keys that are whole numbers or texts -/
noncomputable def sameKA (u : TypeDesc) (a b : AV) (d : β) (f : Bool → β) : β :=
  match u with
  | .int _ => a.elimInt d fun k n => b.elimInt d fun k' m => cond (Nat.beq (kIdx k) (kIdx k')) (f (eqI n m)) d
  | .string => a.elimStr d fun l => b.elimStr d fun m => f (eqL l m)
  | _ => d
noncomputable def lookA (u : TypeDesc) (k : AV) (es : List (AV × AV)) (d z : β) (f : AV → β) : β :=
  List.rec (motive := fun _ => β) z (fun e _ ih => sameKA u k e.1 d fun t => cond t (f e.2) ih) es
noncomputable def updA (u : TypeDesc) (k v : AV) (es : List (AV × AV)) (d : β) (f : List (AV × AV) → β) : β :=
  List.rec (motive := fun _ => (List (AV × AV) → β) → β) (fun f => f [(k, v)]) (fun e t ih f => sameKA u k e.1 d fun s => cond s (f ((k, v) :: t)) (ih fun t => f (e :: t))) es f
noncomputable def isKeyD (u : TypeDesc) : Bool := match u with | .int _ => true | .string => true | _ => false
noncomputable def mapA (t : Nat) (d : β) (f : TypeDesc → Nat → β) : β :=
  match P.underlying t with
  | some (.map k e) => Option.rec (motive := fun _ => β) d (fun u => cond (isKeyD u) (f u e) d) (P.underlying k)
  | _ => d
noncomputable def isIntA (v : AV) : Bool := v.elimInt false fun _ _ => true
noncomputable def makeMapOp (t : Nat) (r : Option AV) (h : AH) : OR :=
  Option.rec (motive := fun _ => OR) (h.alloc (.map []) fun b h => .val (.mp b) h) (fun v => mapA P t .fail fun _ _ => cond (isIntA v) (h.alloc (.map []) fun b h => .val (.mp b) h) .fail) r
noncomputable def lookIn (x i : AV) (ok : Bool) (h : AH) (u : TypeDesc) (e : Nat) : OR :=
  match x with
  | .map0 => zeroA P e .fail fun z => .val (cond ok (.tup [z, .bool false]) z) h
  | .mp b => (h.at_ b).elimMap .fail fun es => lookA u i es .fail (zeroA P e .fail fun z => .val (cond ok (.tup [z, .bool false]) z) h) fun v => .val (cond ok (.tup [v, .bool true]) v) h
  | _ => .fail
noncomputable def lookupOp (t : Nat) (x i : AV) (ok : Bool) (h : AH) : OR := mapA P t .fail (lookIn P x i ok h)
noncomputable def updIn (m k v : AV) (h : AH) (u : TypeDesc) (_e : Nat) : OR :=
  match m with
  | .mp b => cond (Nat.blt b P.globals.size) .fail ((h.at_ b).elimMap .fail fun es => updA u k v es .fail fun es => .skip (h.put b (.map es)))
  | _ => .fail
noncomputable def mapUpdateOp (t : Nat) (m k v : AV) (h : AH) : OR := mapA P t .fail (updIn P m k v h)
noncomputable def optL (o : Option Operand) (τ : Tr AV) : Option AV := Option.rec (motive := fun _ => Option AV) none (fun x => some (evO x τ)) o
noncomputable def partsL (τ : Tr AV) (l : List (Nat × Operand)) : List (Nat × AV) := List.rec (motive := fun _ => List (Nat × AV)) [] (fun x _ ih => (x.1, evO x.2 τ) :: ih) l

abbrev OpF := Tr AV → AH → OR
noncomputable def fMove (x : Operand) : OpF := fun τ h => .val (evO x τ) h
noncomputable def fPick (c a b : Operand) : OpF := fun τ h => (evO c τ).elimBool .fail fun t => cond t (.val (evO a τ) h) (.val (evO b τ) h)
noncomputable def fAlloc (t : Nat) : OpF := fun _ h => allocOp P t h
noncomputable def fBox (t : Nat) (x : Operand) : OpF := fun τ h => boxOp t (evO x τ) h
noncomputable def fBuild (t : Nat) (ps : Array (Nat × Operand)) : OpF := fun τ h => buildOp P t (partsL τ ps.toList) h
noncomputable def fBuildSlice (t n : Nat) (ps : Array (Nat × Operand)) : OpF := fun τ h => buildSliceOp P t n (partsL τ ps.toList) h
noncomputable def fLoad (t : Nat) (a : Operand) : OpF := fun τ h => loadOp P t (evO a τ) h
noncomputable def fStore (t : Nat) (a v : Operand) : OpF := fun τ h => storeOp P t (evO a τ) (evO v τ) h
noncomputable def fNilCheck (x : Operand) : OpF := fun τ h => nilCheckOp (evO x τ) h
noncomputable def isConstO (x : Operand) : Bool := Operand.rec (motive := fun _ => Bool) (fun _ => false) (fun _ => true) (fun _ => false) (fun _ => false) x
noncomputable def fBin (op : BinOp) (t : Nat) (x y : Operand) (_u : Nat) : OpF := fun τ h => binV P (cond (isConstO x) true (isConstO y)) t op (evO x τ) (evO y τ) h
noncomputable def fUn (op : UnOp) (_t : Nat) (x : Operand) : OpF := fun τ h => unV op (evO x τ) h
noncomputable def fConv (s d : Nat) (x : Operand) : OpF := fun τ h => convOp P s d (evO x τ) h
noncomputable def fMakeIfc (t : Nat) (x : Operand) : OpF := fun τ h => makeIfcOp P t (evO x τ) h
noncomputable def fMakeFunc (fn : Fn) (a c : Array Operand) : OpF := fun τ h => .val (.func fn (mapL τ a.toList) (mapL τ c.toList)) h
noncomputable def fMakeSlice (t : Nat) (n c : Operand) : OpF := fun τ h => makeSliceOp P t (evO n τ) (evO c τ) h
noncomputable def fSlice (t : Nat) (x : Operand) (a b c : Option Operand) : OpF := fun τ h => sliceOp P t (evO x τ) (optL a τ) (optL b τ) (optL c τ) h
noncomputable def fFieldAddr (t : Nat) (x : Operand) (f : Nat) : OpF := fun τ h => fieldAddrOp P t (evO x τ) f h
noncomputable def fField (t : Nat) (x : Operand) (f : Nat) : OpF := fun τ h => fieldOp P t (evO x τ) f h
noncomputable def fIndexAddr (t : Nat) (x i : Operand) : OpF := fun τ h => indexAddrOp P t (evO x τ) (evO i τ) h
noncomputable def fIndex (t : Nat) (x i : Operand) : OpF := fun τ h => indexOp P t (evO x τ) (evO i τ) h
noncomputable def fMakeMap (t : Nat) (r : Option Operand) : OpF := fun τ h => makeMapOp P t (optL r τ) h
noncomputable def fLookup (t : Nat) (x i : Operand) (ok : Bool) : OpF := fun τ h => lookupOp P t (evO x τ) (evO i τ) ok h
noncomputable def fMapUpdate (t : Nat) (m k v : Operand) : OpF := fun τ h => mapUpdateOp P t (evO m τ) (evO k τ) (evO v τ) h
noncomputable def fRange (t : Nat) (x : Operand) : OpF := fun τ h => rangeOp P t (evO x τ) h
noncomputable def fNext (x : Operand) (s : Bool) : OpF := fun τ h => nextOp P (evO x τ) s h
noncomputable def fExtract (x : Operand) (i : Nat) : OpF := fun τ h => extractOp (evO x τ) i h
noncomputable def fCall (c : Call) : OpF := fun τ h => callOp P c τ h
noncomputable def fDefer (c : Call) : OpF := fun τ h => deferOp c τ h
noncomputable def fPanic (x : Operand) : OpF := fun τ h => panicOp (evO x τ) h
noncomputable def noF : OpF := fun _ _ => .fail
noncomputable def opF (o : Op) : OpF :=
  Op.rec (motive := fun _ => OpF) fMove fMove fPick (fAlloc P) fBox (fBuild P) (fBuildSlice P) (fMapUpdate P) (fLoad P) (fStore P) (fun _ => noF) (fun _ => noF) fNilCheck (fBin P) fUn (fConv P)
    (fun _ _ => noF) (fMakeIfc P) fMakeFunc (fMakeMap P) (fun _ _ => noF) (fMakeSlice P) (fSlice P) (fFieldAddr P) (fField P) (fIndexAddr P) (fIndex P) (fLookup P) (fMapUpdate P)
    (fun _ _ _ => noF) (fun _ _ _ _ => noF) (fRange P) (fNext P) (fun _ => noF) (fun _ _ _ _ => noF) fExtract (fCall P) (fun _ => noF) fDefer fPanic (fun _ _ => noF) (fun _ _ _ => noF) (fun _ _ => noF) o

end
end Go.Ev
