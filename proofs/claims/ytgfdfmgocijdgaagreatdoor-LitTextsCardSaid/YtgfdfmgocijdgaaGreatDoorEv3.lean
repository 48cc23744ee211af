/- Operations on numbers, texts, blocks and places: each comes to what the model comes to. -/
import Derived.Test.YtgfdfmgocijdgaaGreatDoorEv2
import Derived.Laws.StructEq
namespace Go.Ev
open Go Go.RowKit
variable {α β : Type}

theorem natsOf_inj {a b : ByteArray} (h : natsOf a = natsOf b) : a = b := by
  have h1 : a.data.toList = b.data.toList := by
    have : ∀ l m : List UInt8, l.map UInt8.toNat = m.map UInt8.toNat → l = m := by
      intro l
      induction l with
      | nil => intro m e; cases m with
        | nil => rfl
        | cons y m => simp at e
      | cons x l ih => intro m e; cases m with
        | nil => simp at e
        | cons y m =>
          simp only [List.map_cons, List.cons.injEq] at e
          rw [UInt8.toNat_inj.1 e.1, ih m e.2]
    exact this _ _ h
  cases a; cases b; congr 1; exact Array.toList_inj.1 h1
theorem eqL_str (a b : ByteArray) : eqL (natsOf a) (natsOf b) = (a.toList == b.toList) := by
  rw [eqL_eq, ← beq_toListBytes, Bool.eq_iff_iff]
  constructor
  · intro h; have := natsOf_inj (eq_of_beq h); subst this; rw [beq_toListBytes]; exact beq_self_eq_true _
  · intro h; rw [beq_toListBytes] at h
    have e := eq_of_beq h
    rw [ByteArray.toList_eq, ByteArray.toList_eq] at e
    unfold natsOf; rw [e]; exact beq_self_eq_true _
theorem ltL_bytes : ∀ l m : List UInt8, ltL (l.map UInt8.toNat) (m.map UInt8.toNat) = Op.bytesLess l m := by
  intro l
  induction l with
  | nil => intro m; cases m <;> rfl
  | cons x l ih => intro m; cases m with
    | nil => rfl
    | cons y m =>
      have e : ltL ((x :: l).map UInt8.toNat) ((y :: m).map UInt8.toNat) = cond (Nat.blt x.toNat y.toNat) true (cond (Nat.beq x.toNat y.toNat) (ltL (l.map UInt8.toNat) (m.map UInt8.toNat)) false) := rfl
      rw [e, ih, bltN, beqN]
      have h1 : decide (x.toNat < y.toNat) = decide (x < y) := by rw [Bool.eq_iff_iff]; simp [UInt8.lt_iff_toNat_lt]
      have h2 : decide (x.toNat = y.toNat) = (x == y) := by rw [Bool.eq_iff_iff]; simp [UInt8.toNat_inj]
      rw [h1, h2]
      show _ = (decide (x < y) || (x == y && Op.bytesLess l m))
      cases decide (x < y) <;> cases (x == y) <;> rfl
theorem ltL_str (a b : ByteArray) : ltL (natsOf a) (natsOf b) = Op.bytesLess a.toList b.toList := by
  rw [ByteArray.toList_eq, ByteArray.toList_eq]; exact ltL_bytes _ _
theorem natsOf_append (a b : ByteArray) : natsOf (a ++ b) = natsOf a ++ natsOf b := by
  simp [natsOf, ByteArray.data_append]
theorem bytesLess_flip : ∀ l m : List UInt8, (!(Op.bytesLess l m || l == m)) = Op.bytesLess m l := by
  intro l
  induction l with
  | nil => intro m; cases m <;> rfl
  | cons x l ih => intro m; cases m with
    | nil => rfl
    | cons y m =>
      show (!((decide (x < y) || (x == y && Op.bytesLess l m)) || (x :: l) == (y :: m))) = (decide (y < x) || (y == x && Op.bytesLess m l))
      rw [List.cons_beq_cons, ← ih m]
      by_cases h : x = y
      · subst h
        have : ¬ x < x := by simp
        simp [this]
      · have h' : ¬ y = x := fun e => h e.symm
        have e1 : (x == y) = false := by simpa using h
        have e2 : (y == x) = false := by simpa using h'
        rw [e1, e2]
        have hn : x.toNat ≠ y.toNat := fun e => h (UInt8.toNat_inj.1 e)
        simp only [Bool.false_and, Bool.or_false, UInt8.lt_iff_toNat_lt]
        rw [Bool.eq_iff_iff]; simp; omega

section
variable {P : Program} {B : Bd} {M : Mp} {w : World} {t : TypeId} {X Y : Operand} {a b : AV} {x y : Value} {h : AH}

theorem add_sound (ha : VRel M a x) (hb : VRel M b y) (H : HRel P B M h w) : SV P B M w (binS .add t X Y x y) (addOp a b h) := by
  cases ha with
  | int k n => cases hb with
    | int k' m =>
      show SV P B M w _ (cond (Nat.beq (kIdx k) (kIdx k')) (.val (wrapV k (addI n m)) h) .fail)
      rw [beqN]
      by_cases e : kIdx k = kIdx k'
      · have := kIdx_inj e; subst this
        rw [decide_eq_true rfl, cond_true, wrapV_eq, addI_eq]
        exact .here H (binS_int (by simp [binOp, Op.intArith]) w) (.int k _)
      · rw [decide_eq_false e]; trivial
    | _ => trivial
  | str s => cases hb with
    | str s' =>
      show SV P B M w _ (cond (Nat.ble (Nat.add (lenL (natsOf s)) (lenL (natsOf s'))) 1000000) (.val (.str (appL (natsOf s) (natsOf s'))) h) .fail)
      rw [bleN, lenL_eq, lenL_eq, natsOf_size, natsOf_size]
      by_cases e : Nat.add s.size s'.size ≤ 1000000
      · rw [decide_eq_true e, cond_true, appL_eq, ← natsOf_append]
        refine .here H (binS_str ?_ w) (.str _)
        have e' : ¬ ((s.size + s'.size : Nat) : Int) > IntKind.i64.max := by
          have : IntKind.i64.max = 9223372036854775807 := rfl
          have h2 : s.size + s'.size ≤ 1000000 := e
          rw [this]; omega
        simp only [binOp, Op.stringOp, e', if_false]
      · rw [decide_eq_false e]; trivial
    | _ => trivial
  | _ => trivial

theorem cmp_sound (op : BinOp) (f : Int → Int → Bool) (g : List Nat → List Nat → Bool) (hf : ∀ k n m, binOp op t (.int k n) (.int k m) = pure (.bool (f n m)))
    (hg : ∀ a b : ByteArray, binOp op t (.string a) (.string b) = pure (.bool (g (natsOf a) (natsOf b)))) (ha : VRel M a x) (hb : VRel M b y) (H : HRel P B M h w) :
    SV P B M w (binS op t X Y x y) (cmpOp f g a b h) := by
  cases ha with
  | int k n => cases hb with
    | int k' m =>
      show SV P B M w _ (cond (Nat.beq (kIdx k) (kIdx k')) (.val (.bool (f n m)) h) .fail)
      rw [beqN]
      by_cases e : kIdx k = kIdx k'
      · have := kIdx_inj e; subst this
        rw [decide_eq_true rfl, cond_true]
        exact .here H (binS_int (hf k n m) w) (.bool _)
      · rw [decide_eq_false e]; trivial
    | _ => trivial
  | str s => cases hb with
    | str s' => exact .here H (binS_str (hg s s') w) (.bool _)
    | _ => trivial
  | _ => trivial
theorem lss_sound (ha : VRel M a x) (hb : VRel M b y) (H : HRel P B M h w) : SV P B M w (binS .lss t X Y x y) (cmpOp ltI ltL a b h) :=
  cmp_sound .lss ltI ltL (fun k n m => by simp [binOp, Op.intCmp, ltI_eq]) (fun a b => by simp [binOp, Op.stringOp, ltL_str]) ha hb H
theorem leq_sound (ha : VRel M a x) (hb : VRel M b y) (H : HRel P B M h w) : SV P B M w (binS .leq t X Y x y) (cmpOp leI leL a b h) :=
  cmp_sound .leq leI leL (fun k n m => by simp [binOp, Op.intCmp, leI, ltI_eq]; congr 2; rw [Bool.eq_iff_iff]; simp) (fun a b => by simp only [binOp, Op.stringOp, leL, ltL_str, ← bytesLess_flip a.toList b.toList, Bool.not_not]) ha hb H
theorem gtr_sound (ha : VRel M a x) (hb : VRel M b y) (H : HRel P B M h w) : SV P B M w (binS .gtr t X Y x y) (cmpOp gtI gtL a b h) :=
  cmp_sound .gtr gtI gtL (fun k n m => by simp [binOp, Op.intCmp, gtI, ltI_eq]) (fun a b => by simp only [binOp, Op.stringOp, gtL, ltL_str, ← bytesLess_flip a.toList b.toList]) ha hb H
theorem geq_sound (ha : VRel M a x) (hb : VRel M b y) (H : HRel P B M h w) : SV P B M w (binS .geq t X Y x y) (cmpOp geI geL a b h) :=
  cmp_sound .geq geI geL (fun k n m => by simp [binOp, Op.intCmp, geI, ltI_eq]; congr 2; rw [Bool.eq_iff_iff]; simp) (fun a b => by simp only [binOp, Op.stringOp, geL, ltL_str]) ha hb H

/-- '==' of two values that are not both numbers or texts. -/
theorem eqT_sound (c : Bool) (r : Bool) (hr : eqT P c t a b = some r) (ha : VRel M a x) (hb : VRel M b y) (w : World) : (Op.equal t x y).run P w = .ok r w ∧ (a ≠ .ifc0 ∨ b ≠ .ifc0 ∨ c = true) := by
  unfold eqT at hr
  unfold Op.equal
  obtain ⟨dd, hdd⟩ : ∃ d, Op.maxDepth = d + 1 := ⟨9999, rfl⟩
  rw [hdd]
  cases hu : P.underlying t with
  | none => rw [hu] at hr; cases hr
  | some d =>
    rw [hu] at hr
    have hrun : ∀ w, (underlying t).run P w = .ok d w := fun w => run_underlying hu w
    cases d with
    | bool =>
      cases ha with
      | bool u => cases hb with
        | bool v =>
          have e : (u == v) = r := Option.some.inj hr
          subst e
          exact ⟨by simp [Op.equalIn, hrun], .inl (by simp)⟩
        | _ => cases hr
      | _ => cases hr
    | pointer e =>
      cases ha with
      | ptr0 => cases hb with
        | ptr0 => cases hr; exact ⟨by simp [Op.equalIn, hrun], .inl (by simp)⟩
        | ptr h' => cases hr; exact ⟨by simp [Op.equalIn, hrun], .inl (by simp)⟩
        | _ => cases hr
      | ptr h1 => cases hb with
        | ptr0 => cases hr; exact ⟨by simp [Op.equalIn, hrun], .inl (by simp)⟩
        | ptr h2 =>
          rename_i b1 o1 p1 b2 o2 p2
          simp only at hr
          cases hi : P.info? e with
          | none => rw [hi] at hr; cases hr
          | some i =>
            rw [hi] at hr
            have hr' : cond (Nat.beq i.size 0) none (cond (Nat.beq b1 b2) (some (Nat.beq o1 o2)) none) = some r := hr
            rw [beqN, beqN, beqN] at hr'
            by_cases c0 : i.size = 0
            · rw [decide_eq_true c0] at hr'; cases hr'
            · rw [decide_eq_false c0, cond_false] at hr'
              by_cases c1 : b1 = b2
              · rw [decide_eq_true c1, cond_true] at hr'
                subst c1
                rw [h1] at h2; cases h2
                have er := Option.some.inj hr'
                refine ⟨?_, .inl (by simp)⟩
                simp only [Op.equalIn, Sem.run_bind, hrun, Result.andThen_ok, sizeOf, typeInfo, run_program, hi]
                have e2 : (({ block := p1.cb, off := p1.base + o1, spot := none } : Addr) == { block := p1.cb, off := p1.base + o2, spot := none }) = decide (o1 = o2) := by
                  rw [Bool.eq_iff_iff]; simp
                simp [c0, sameAddr, e2, ← er]
              · rw [decide_eq_false c1] at hr'; cases hr'
        | _ => cases hr
      | _ => cases hr
    | slice e =>
      cases ha with
      | sl0 => cases hb with
        | sl0 => cases hr; exact ⟨by simp [Op.equalIn, hrun], .inl (by simp)⟩
        | sl _ _ _ _ _ _ => cases hr; exact ⟨by simp [Op.equalIn, hrun], .inl (by simp)⟩
        | _ => cases hr
      | sl _ _ _ _ _ _ => cases hb with
        | sl0 => cases hr; exact ⟨by simp [Op.equalIn, hrun], .inl (by simp)⟩
        | _ => cases hr
      | _ => cases hr
    | map k e =>
      cases ha with
      | map0 => cases hb with
        | map0 => cases hr; exact ⟨by simp [Op.equalIn, hrun], .inl (by simp)⟩
        | mp _ => cases hr; exact ⟨by simp [Op.equalIn, hrun], .inl (by simp)⟩
        | _ => cases hr
      | mp _ => cases hb with
        | map0 => cases hr; exact ⟨by simp [Op.equalIn, hrun], .inl (by simp)⟩
        | _ => cases hr
      | _ => cases hr
    | func ps rs v =>
      cases ha with
      | func0 => cases hb with
        | func0 => cases hr; exact ⟨by simp [Op.equalIn, hrun], .inl (by simp)⟩
        | func _ _ _ => cases hr; exact ⟨by simp [Op.equalIn, hrun], .inl (by simp)⟩
        | _ => cases hr
      | func _ _ _ => cases hb with
        | func0 => cases hr; exact ⟨by simp [Op.equalIn, hrun], .inl (by simp)⟩
        | _ => cases hr
      | _ => cases hr
    | interface ms =>
      cases ha with
      | ifc0 => cases hb with
        | ifc0 =>
          cases c with
          | true => cases hr; exact ⟨by simp [Op.equalIn, hrun], .inr (.inr rfl)⟩
          | false => cases hr
        | ifc _ _ => cases hr; exact ⟨by simp [Op.equalIn, hrun], .inr (.inl (by simp))⟩
        | _ => cases hr
      | ifc _ _ => cases hb with
        | ifc0 => cases hr; exact ⟨by simp [Op.equalIn, hrun], .inl (by simp)⟩
        | _ => cases hr
      | _ => cases hr
    | _ => cases hr
theorem eqGuard_other (op : BinOp) (t : TypeId) (X Y : Operand) {x y : Value} (hx : ∀ cs, x ≠ .agg cs) (hc : x = .nilIface → y = .nilIface → cond (isConstO X) true (isConstO Y) = true) (w : World) :
    (eqGuard op t X Y x y).run P w = .ok () w := by
  cases x with
  | agg cs => exact absurd rfl (hx cs)
  | nilIface => cases y with
    | nilIface =>
      have hc := hc rfl rfl
      cases X with
      | const v => cases op <;> rfl
      | tmp t' => cases Y with
        | const v => cases op <;> rfl
        | _ => cases hc
      | global t' => cases Y with
        | const v => cases op <;> rfl
        | _ => cases hc
      | func t' => cases Y with
        | const v => cases op <;> rfl
        | _ => cases hc
    | _ => cases op <;> rfl
  | _ => cases op <;> rfl
theorem eqT_noagg {c : Bool} {r : Bool} (hr : eqT P c t a b = some r) (ha : VRel M a x) : ∀ cs, x ≠ .agg cs := by
  intro cs e
  subst e
  unfold eqT at hr
  cases ha with
  | junk => split at hr <;> cases hr
  | agg _ => split at hr <;> cases hr
theorem eqT_ifc0 {c : Bool} {r : Bool} (hr : eqT P c t a b = some r) (ha : VRel M a .nilIface) (hb : VRel M b .nilIface) : a = .ifc0 ∧ b = .ifc0 := by
  unfold eqT at hr
  cases ha with
  | junk => split at hr <;> cases hr
  | ifc0 =>
    cases hb with
    | junk => split at hr <;> cases hr
    | ifc0 => exact ⟨rfl, rfl⟩
theorem binOp_eql_other {x y : Value} (h1 : ∀ k n k' m, ¬ (x = .int k n ∧ y = .int k' m)) (h2 : ∀ a b, ¬ (x = .string a ∧ y = .string b)) (h3 : ∀ k a k' b, ¬ (x = .float k a ∧ y = .float k' b)) (h4 : ∀ k a a' k' b b', ¬ (x = .complex k a a' ∧ y = .complex k' b b')) :
    binOp .eql t x y = (do pure (.bool (← Op.equal t x y))) ∧ binOp .neq t x y = (do pure (.bool (!(← Op.equal t x y)))) := by
  cases x with
  | int k n => cases y with
    | int k' m => exact absurd ⟨rfl, rfl⟩ (h1 k n k' m)
    | _ => exact ⟨rfl, rfl⟩
  | string s => cases y with
    | string s' => exact absurd ⟨rfl, rfl⟩ (h2 s s')
    | _ => exact ⟨rfl, rfl⟩
  | float k n => cases y with
    | float k' m => exact absurd ⟨rfl, rfl⟩ (h3 k n k' m)
    | _ => exact ⟨rfl, rfl⟩
  | complex k n n' => cases y with
    | complex k' m m' => exact absurd ⟨rfl, rfl⟩ (h4 k n n' k' m m')
    | _ => exact ⟨rfl, rfl⟩
  | _ => exact ⟨rfl, rfl⟩
theorem eqT_kinds {c : Bool} {r : Bool} (hr : eqT P c t a b = some r) (ha : VRel M a x) : (∀ k n, x ≠ .int k n) ∧ (∀ s, x ≠ .string s) ∧ (∀ k n, x ≠ .float k n) ∧ (∀ k n m, x ≠ .complex k n m) := by
  unfold eqT at hr
  cases ha with
  | junk => split at hr <;> cases hr
  | int => split at hr <;> cases hr
  | str => split at hr <;> cases hr
  | _ => exact ⟨by simp, by simp, by simp, by simp⟩
theorem eq_slow {c : Bool} {r : Bool} (hc : c = cond (isConstO X) true (isConstO Y)) (hr : eqT P c t a b = some r) (ha : VRel M a x) (hb : VRel M b y) (w : World) :
    (binS .eql t X Y x y).run P w = .ok (.bool r) w ∧ (binS .neq t X Y x y).run P w = .ok (.bool (!r)) w := by
  have hs := eqT_sound c r hr ha hb w
  have hk := eqT_kinds hr ha
  have hg : ∀ op, (eqGuard op t X Y x y).run P w = .ok () w := fun op => eqGuard_other op t X Y (eqT_noagg hr ha) (by
    intro e1 e2
    subst e1 e2
    obtain ⟨rfl, rfl⟩ := eqT_ifc0 hr ha hb
    rcases hs.2 with h | h | h
    · exact absurd rfl h
    · exact absurd rfl h
    · rw [← hc]; exact h) w
  have ho := binOp_eql_other (t := t) (x := x) (y := y) (fun k n _ _ e => hk.1 k n e.1) (fun a _ e => hk.2.1 a e.1) (fun k a _ _ e => hk.2.2.1 k a e.1) (fun k a a' _ _ _ e => hk.2.2.2 k a a' e.1)
  constructor
  · show (eqGuard _ t X Y _ _ >>= fun _ => binOp _ t _ _).run P w = _
    rw [Sem.run_bind, hg, Result.andThen_ok, ho.1, Sem.run_bind, hs.1]; rfl
  · show (eqGuard _ t X Y _ _ >>= fun _ => binOp _ t _ _).run P w = _
    rw [Sem.run_bind, hg, Result.andThen_ok, ho.2, Sem.run_bind, hs.1]; rfl
theorem eqOp_other (neg : Bool) (c : Bool) (ha : VRel M a x) (h1 : ∀ k n, a ≠ .int k n) (h2 : ∀ l, a ≠ .str l) :
    eqOp P c t neg a b h = Option.rec (motive := fun _ => OR) .fail (fun r => .val (.bool (cond neg (not r) r)) h) (eqT P c t a b) := by
  cases ha with
  | int k n => exact absurd rfl (h1 k n)
  | str s => exact absurd rfl (h2 _)
  | _ => rfl
theorem eq_sound (neg : Bool) (ha : VRel M a x) (hb : VRel M b y) (H : HRel P B M h w) : SV P B M w (binS (cond neg .neq .eql) t X Y x y) (eqOp P (cond (isConstO X) true (isConstO Y)) t neg a b h) := by
  by_cases h1 : ∃ k n, a = .int k n
  · obtain ⟨k, n, rfl⟩ := h1
    cases ha with
    | int => cases hb with
      | int k' m =>
        show SV P B M w _ (cond (Nat.beq (kIdx k) (kIdx k')) (.val (.bool (cond neg (not (eqI n m)) (eqI n m))) h) .fail)
        rw [beqN]
        by_cases e : kIdx k = kIdx k'
        · have := kIdx_inj e; subst this
          rw [decide_eq_true rfl, cond_true, eqI_eq]
          cases neg
          · exact .here H (binS_int (by simp [binOp, Op.intCmp]) w) (.bool _)
          · exact .here H (binS_int (by simp [binOp, Op.intCmp, bne]) w) (.bool _)
        · rw [decide_eq_false e]; trivial
      | _ => trivial
  · by_cases h2 : ∃ l, a = .str l
    · obtain ⟨l, rfl⟩ := h2
      cases ha with
      | str s => cases hb with
        | str s' =>
          show SV P B M w _ (.val (.bool (cond neg (not (eqL (natsOf s) (natsOf s'))) (eqL (natsOf s) (natsOf s')))) h)
          rw [eqL_str]
          cases neg
          · exact .here H (binS_str (by simp [binOp, Op.stringOp]) w) (.bool _)
          · exact .here H (binS_str (by simp [binOp, Op.stringOp]) w) (.bool _)
        | _ => trivial
    · rw [eqOp_other neg _ ha (fun k n e => h1 ⟨k, n, e⟩) (fun l e => h2 ⟨l, e⟩)]
      cases hr : eqT P (cond (isConstO X) true (isConstO Y)) t a b with
      | none => trivial
      | some r =>
        have := eq_slow (X := X) (Y := Y) rfl hr ha hb w
        cases neg
        · exact .here H this.1 (.bool _)
        · exact .here H this.2 (.bool _)

theorem binV_sound (op : BinOp) (ha : VRel M a x) (hb : VRel M b y) (H : HRel P B M h w) : SV P B M w (binS op t X Y x y) (binV P (cond (isConstO X) true (isConstO Y)) t op a b h) := by
  cases op with
  | add => exact add_sound ha hb H
  | sub => exact sub_sound ha hb H
  | mul => exact mul_sound ha hb H
  | quo => exact quo_sound ha hb H
  | rem => exact rem_sound ha hb H
  | and => exact and_sound ha hb H
  | or => exact or_sound ha hb H
  | xor => exact xor_sound ha hb H
  | shl => exact shl_sound ha hb H
  | shr => exact shr_sound ha hb H
  | andNot => trivial
  | eql => exact eq_sound false ha hb H
  | neq => exact eq_sound true ha hb H
  | lss => exact lss_sound ha hb H
  | leq => exact leq_sound ha hb H
  | gtr => exact gtr_sound ha hb H
  | geq => exact geq_sound ha hb H
theorem unV_sound (op : UnOp) (ha : VRel M a x) (H : HRel P B M h w) : SV P B M w (Op.unary op x) (unV op a h) := by
  cases op with
  | neg => cases ha with
    | int k n =>
      show SV P B M w _ (.val (wrapV k (subI 0 n)) h)
      rw [wrapV_eq, subI_eq]
      exact .here H (by simp [Op.unary, Op.intArith]) (.int k _)
    | _ => trivial
  | not => cases ha with
    | bool b => exact .here H (by simp [Op.unary]) (.bool _)
    | _ => trivial
  | xor => trivial
  | plus => trivial
end
end Go.Ev
namespace Go.Ev
open Go Go.RowKit
variable {α β : Type}
section
variable {P : Program} {B : Bd} {M : Mp} {w : World} {h : AH}

theorem ofConst0_rel (v : Value) : VRel M (ofConst0 v) v := by
  unfold ofConst0
  split
  · exact .bool _
  · exact .int _ _
  · exact .str _
  · exact .ptr0
  · exact .sl0
  · exact .map0
  · exact .func0
  · exact .ifc0
  · exact .junk _
theorem ofConst0_list : ∀ l : List Value, LRel M (l.map ofConst0) l
  | [] => .nil
  | v :: l => .cons (ofConst0_rel v) (ofConst0_list l)
theorem ofConst_rel (v : Value) : VRel M (ofConst v) v := by
  unfold ofConst
  split
  · exact .agg (ofConst0_list _)
  · exact .tup (ofConst0_list _)
  · exact .ifc _ (ofConst0_rel _)
  · exact ofConst0_rel _
theorem ofConst_cells (v : Value) : LRel M (ofConst v).cells v.cells.toList := by
  cases v with
  | agg cs => exact ofConst0_list cs.toList
  | tuple cs => exact .cons (.tup (ofConst0_list cs.toList)) .nil
  | iface t x => exact .cons (.ifc t (ofConst0_rel x)) .nil
  | bool b => exact .cons (.bool b) .nil
  | int k n => exact .cons (.int k n) .nil
  | float k b => exact .cons (.junk _) .nil
  | complex k a b => exact .cons (.junk _) .nil
  | string s => exact .cons (.str s) .nil
  | pointer a => cases a with
    | none => exact .cons .ptr0 .nil
    | some a => exact .cons (.junk _) .nil
  | slice a n c =>
    have hc : (ofConst (.slice a n c)).cells = [ofConst0 (.slice a n c)] := by
      show (ofConst0 (.slice a n c)).cells = [ofConst0 (.slice a n c)]
      unfold ofConst0
      split <;> first | rfl | (rename_i e; cases e)
    rw [hc]
    exact .cons (ofConst0_rel _) .nil
  | map r => cases r with
    | none => exact .cons .map0 .nil
    | some a => exact .cons (.junk _) .nil
  | chan r => exact .cons (.junk _) .nil
  | func fn a c => exact .cons (.junk _) .nil
  | nilFunc => exact .cons .func0 .nil
  | nilIface => exact .cons .ifc0 .nil

/-! ### a new block -/
theorem HRel.new (H : HRel P B M h w) (arr : Array Value) (e : Nat) (f : Nat × Nat) (c : Tr AV) (n : Nat) (z : Bool) (hn : n ≤ arr.size)
    (hc : ∀ i v, i < n → arr[i]? = some v → VRel M (c.get .junk (toP i)) v) (hf : z = false → ∀ i, i < arr.size → ¬ (f.1 ≤ i ∧ i < f.2)) :
    HRel P B (M.ext h.next ⟨w.heap.size, 0, arr.size, P.cellsOf e⟩) ⟨Tr.set .none (.cells c n e z) (toP h.next) h.blks, h.next + 1⟩ (w.alloc (.cells arr e f)) := by
  refine H.alloc (.cells arr e f) ⟨w.heap.size, 0, arr.size, P.cellsOf e⟩ rfl (.cells c n e z) ?_
  refine ⟨arr, f, rfl, rfl, rfl, by simpa using hn, fun i hi => ?_, fun hz i _ hi => hf hz i hi⟩
  have hi' : i < arr.size := by omega
  have hle : M.le (M.ext h.next ⟨w.heap.size, 0, arr.size, P.cellsOf e⟩) := Mp.ext_le (H.fresh _ (Nat.le_refl _))
  refine ⟨arr[i], by simp [hi'], ?_⟩
  exact (hc i arr[i] hi (by simp [hi'])).mono hle
theorem Mp.le_next (H : HRel P B M h w) (p : Pl) : M.le (M.ext h.next p) := Mp.ext_le (H.fresh _ (Nat.le_refl _))
theorem Below.new (H : HRel P B M h w) (o : Obj) : Below B.n w (w.alloc o) := (Below.refl B.n w).alloc H.big o
/-- A row of known cells. -/
theorem HRel.row (H : HRel P B M h w) {l : List AV} {arr : Array Value} (hl : LRel M l arr.toList) (e : Nat) :
    HRel P B (M.ext h.next ⟨w.heap.size, 0, arr.size, P.cellsOf e⟩) ⟨Tr.set .none (.cells (putL l 0 .nil) l.length e false) (toP h.next) h.blks, h.next + 1⟩ (w.alloc (.cells arr e (0, 0))) := by
  have hs : arr.size = l.length := by have := hl.length; simpa using this
  refine H.new arr e (0, 0) _ _ false (by omega) (fun i v hi hv => ?_) (fun _ i _ => by simp)
  rw [putL_get, if_pos (by omega), Nat.sub_zero]
  exact hl.get i v (by simpa using hv)
theorem run_newRow (e : Nat) (arr : Array Value) (w : World) : (newRow e arr).run P w = .ok ⟨w.heap.size, 0, none⟩ (w.alloc (.cells arr e (0, 0))) := rfl

theorem sizeA_split (t : Nat) (d : β) (f : Nat → β) : (∃ i, P.info? t = some i ∧ sizeA P t d f = f i.size) ∨ sizeA P t d f = d := by
  unfold sizeA
  cases P.info? t with
  | none => exact .inr rfl
  | some i => exact .inl ⟨i, rfl, rfl⟩
theorem bytesA_split (t : Nat) (d : β) (f : Nat → β) : (∃ i, P.info? t = some i ∧ bytesA P t d f = f i.bytes) ∨ bytesA P t d f = d := by
  unfold bytesA
  cases P.info? t with
  | none => exact .inr rfl
  | some i => exact .inl ⟨i, rfl, rfl⟩
theorem zeroA_split (t : Nat) (d : β) (f : AV → β) : (∃ i z, P.info? t = some i ∧ i.zero = some z ∧ zeroA P t d f = f (ofConst z)) ∨ zeroA P t d f = d := by
  unfold zeroA
  cases P.info? t with
  | none => exact .inr rfl
  | some i =>
    cases hz : i.zero with
    | none => exact .inr (by simp only [hz])
    | some z => exact .inl ⟨i, z, rfl, hz, by simp only [hz]⟩
theorem aggA_split (t : Nat) (d yes no : β) : (∃ x, P.underlying t = some x ∧ isAggD x = true ∧ aggA P t d yes no = yes) ∨ (∃ x, P.underlying t = some x ∧ isAggD x = false ∧ aggA P t d yes no = no) ∨ aggA P t d yes no = d := by
  unfold aggA
  cases P.underlying t with
  | none => exact .inr (.inr rfl)
  | some x =>
    cases hx : isAggD x with
    | true => exact .inl ⟨x, rfl, hx, by simp only [hx]; rfl⟩
    | false => exact .inr (.inl ⟨x, rfl, hx, by simp only [hx]; rfl⟩)
theorem run_sizeOf' {t : Nat} {i : TypeInfo} (hi : P.info? t = some i) (w : World) : (sizeOf t).run P w = .ok i.size w := by
  simp [sizeOf, typeInfo, hi]
theorem run_typeInfo' {t : Nat} {i : TypeInfo} (hi : P.info? t = some i) (w : World) : (typeInfo t).run P w = .ok i w := by
  simp [typeInfo, hi]
theorem run_zero' {t : Nat} {i : TypeInfo} {z : Value} (hi : P.info? t = some i) (hz : i.zero = some z) (w : World) : (zeroValue t).run P w = .ok z w := by
  simp [zeroValue, typeInfo, hi, hz]
theorem run_isAgg' {t : Nat} {x : TypeDesc} (hx : P.underlying t = some x) (w : World) : (isAgg t).run P w = .ok (isAggD x) w := by
  simp only [isAgg, Sem.run_bind, run_underlying hx, Result.andThen_ok]
  cases x <;> rfl
theorem cellsOf_eq {t : Nat} {i : TypeInfo} (hi : P.info? t = some i) : P.cellsOf t = i.size := by simp [Program.cellsOf, hi]

/-! ### allocations -/
theorem alloc_sound (t : Nat) (old : Value) (H : HRel P B M h w) : SV P B M w (Instr.alloc t true old) (allocOp P t h) := by
  unfold allocOp
  rcases zeroA_split (P := P) t OR.fail (fun z => h.alloc (.cells (putL z.cells 0 .nil) (lenL z.cells) t false) fun b h => .val (.ptr b 0) h) with ⟨i, z, hi, hz, e⟩ | e <;> rw [e]
  · rw [AH.alloc_eq, lenL_eq]
    refine ⟨_, .pointer (some ⟨w.heap.size, 0, none⟩), _, ?_, Mp.le_next H ⟨w.heap.size, 0, z.cells.size, P.cellsOf t⟩, ?_, H.row (ofConst_cells z) t, Below.new H _⟩
    · simp [Instr.alloc, run_zero' hi hz, newVar, run_newRow]
    · have := VRel.ptr (M := M.ext h.next ⟨w.heap.size, 0, z.cells.size, P.cellsOf t⟩) (b := h.next) (off := 0) Mp.ext_self
      simpa using this
  · trivial
theorem box_sound (t : Nat) {v : AV} {v' : Value} (hv : VRel M v v') (H : HRel P B M h w) : SV P B M w (Instr.box t v') (boxOp t v h) := by
  unfold boxOp
  rw [allL_eq]
  cases ha : v.cells.all AV.one with
  | false => trivial
  | true =>
    have hj : v ≠ .junk := by rintro rfl; cases ha
    rw [cond_true, AH.alloc_eq, lenL_eq]
    refine ⟨_, .pointer (some ⟨w.heap.size, 0, none⟩), _, ?_, Mp.le_next H ⟨w.heap.size, 0, v'.cells.size, P.cellsOf t⟩, ?_, H.row (hv.cells hj) t, Below.new H _⟩
    · simp [Instr.box, newVar, run_newRow]
    · have := VRel.ptr (M := M.ext h.next ⟨w.heap.size, 0, v'.cells.size, P.cellsOf t⟩) (b := h.next) (off := 0) Mp.ext_self
      simpa using this

/-! ### loads -/
theorem AV.ptr_split {a : AV} {x : Value} (ha : VRel M a x) (d : β) (f : Nat → Nat → β) :
    (∃ b o p, a = .ptr b o ∧ M b = some p ∧ x = .pointer (some ⟨p.cb, p.base + o, none⟩) ∧ a.elimPtr d f = f b o) ∨ a.elimPtr d f = d := by
  cases ha with
  | ptr hp => exact .inl ⟨_, _, _, rfl, hp, rfl, rfl⟩
  | _ => exact .inr rfl
theorem Blk.cells_split (x : Blk) (d : β) (f : Tr AV → Nat → Nat → Bool → β) : (∃ c n e z, x = .cells c n e z ∧ x.elimCells d f = f c n e z) ∨ x.elimCells d f = d := by
  cases x with
  | cells c n e z => exact .inl ⟨c, n, e, z, rfl, rfl⟩
  | _ => exact .inr rfl
theorem getL_rel {c : Tr AV} {arr : Array Value} {base n o s : Nat} (hc : ∀ i, i < n → ∃ v, arr[base + i]? = some v ∧ VRel M (c.get .junk (toP i)) v) (hs : o + s ≤ n) :
    LRel M (getL c s o) ((List.range s).map fun j => (arr[base + o + j]?).getD undef) := by
  rw [getL_eq]
  refine LRel.of_get (by simp) fun i v hi => ?_
  have hlt : i < s := by
    have := (List.getElem?_eq_some_iff.1 hi).1
    simpa using this
  obtain ⟨v', h1, h2⟩ := hc (o + i) (by omega)
  simp only [List.getElem?_map, List.getElem?_range hlt, Option.map_some, Option.some.injEq] at hi
  rw [Nat.add_assoc, h1] at hi
  simp only [Option.getD_some] at hi
  subst hi
  simpa [List.getD, List.getElem?_map, List.getElem?_range hlt] using h2
theorem run_loadCells_at {arr : Array Value} {e : Nat} {f : Nat × Nat} {k : Nat} (hh : w.heap[k]? = some (.cells arr e f)) (o s : Nat) (hs : o + s ≤ arr.size) :
    (loadCells ⟨k, o, none⟩ s).run P w = .ok ((List.range s).map fun j => (arr[o + j]?).getD undef).toArray w := by
  refine run_loadCells w ⟨k, o, none⟩ s _ fun j hj => ?_
  have : (⟨k, o, none⟩ : Addr).add j = ⟨k, o + j, none⟩ := by unfold Addr.add; split <;> simp_all
  have hlt : o + j < arr.size := by omega
  rw [this, cell_of hh]; simp [hlt]
theorem load_split (t : Nat) {a : AV} {x : Value} (ha : VRel M a x) (H : HRel P B M h w) (d : β) (k : AV → β) :
    (∃ v v' ad, x = .pointer (some ad) ∧ (loadVar t ad).run P w = .ok v' w ∧ VRel M v v' ∧ loadV P t a h d k = k v) ∨ loadV P t a h d k = d := by
  unfold loadV
  rcases AV.ptr_split ha d (fun b o => (h.at_ b).elimCells d fun c n _ _ => aggA P t d (sizeA P t d fun s => cond (Nat.ble (Nat.add o s) n) (k (.agg (getL c s o))) d) (cond (Nat.blt o n) (k (c.get .junk (toP o))) d)) with ⟨b, o, p, rfl, hp, rfl, e⟩ | e <;> rw [e]
  · rcases Blk.cells_split (h.at_ b) d (fun c n _ _ => aggA P t d (sizeA P t d fun s => cond (Nat.ble (Nat.add o s) n) (k (.agg (getL c s o))) d) (cond (Nat.blt o n) (k (c.get .junk (toP o))) d)) with ⟨c, n, el, z, hb, e⟩ | e <;> rw [e]
    · obtain ⟨q, arr, f, hq, hh, hsz, hz, hn, hc, hf⟩ := H.cells hb hp
      rw [hp] at hq; cases hq
      rcases aggA_split (P := P) t d (sizeA P t d fun s => cond (Nat.ble (Nat.add o s) n) (k (.agg (getL c s o))) d) (cond (Nat.blt o n) (k (c.get .junk (toP o))) d) with ⟨x, hx, hag, e⟩ | ⟨x, hx, hag, e⟩ | e <;> rw [e]
      · rcases sizeA_split (P := P) t d (fun s => cond (Nat.ble (Nat.add o s) n) (k (.agg (getL c s o))) d) with ⟨i, hi, e⟩ | e <;> rw [e]
        · rw [bleN]
          by_cases hle : Nat.add o i.size ≤ n
          · rw [decide_eq_true hle, cond_true]
            have hle' : o + i.size ≤ n := hle
            refine .inl ⟨_, .agg ((List.range i.size).map fun j => (arr[p.base + o + j]?).getD undef).toArray, _, rfl, ?_, ?_, rfl⟩
            · simp only [loadVar, Sem.run_bind, run_isAgg' hx, Result.andThen_ok, hag, if_true, run_sizeOf' hi, run_loadCells_at hh (p.base + o) i.size (by omega), Sem.run_pure]
            · exact .agg (by simpa using getL_rel hc hle')
          · rw [decide_eq_false hle]; exact .inr rfl
        · exact .inr rfl
      · rw [bltN]
        by_cases hlt : o < n
        · rw [decide_eq_true hlt, cond_true]
          obtain ⟨v', h1, h2⟩ := hc o hlt
          refine .inl ⟨_, v', _, rfl, ?_, h2, rfl⟩
          simp only [loadVar, Sem.run_bind, run_isAgg' hx, Result.andThen_ok, hag, Bool.false_eq_true, if_false, run_load, cell_of hh, h1]
        · rw [decide_eq_false hlt]; exact .inr rfl
      · exact .inr rfl
    · exact .inr rfl
  · exact .inr rfl
theorem load_sound (t : Nat) {a : AV} {x : Value} (ha : VRel M a x) (H : HRel P B M h w) : SV P B M w (Instr.loadAt t x) (loadOp P t a h) := by
  unfold loadOp
  rcases load_split t ha H OR.fail (fun v => .val v h) with ⟨v, v', ad, rfl, hr, hv, e⟩ | e <;> rw [e]
  · exact .here H (by simp [Instr.loadAt, Instr.sureAddr, hr]) hv
  · trivial
end
end Go.Ev
namespace Go.Ev
open Go Go.RowKit
variable {α β : Type}
section
variable {P : Program} {B : Bd} {M : Mp} {w : World} {h : AH}

/-! ### stores -/
theorem frozen_of {arr : Array Value} {e : Nat} {f : Nat × Nat} {k i : Nat} (hh : w.heap[k]? = some (.cells arr e f)) (hf : ¬ (f.1 ≤ i ∧ i < f.2)) : w.frozen? ⟨k, i, none⟩ = false := by
  obtain ⟨lo, hi⟩ := f
  simp only [World.frozen?, hh]
  simpa using hf
theorem LRel.all_one {M : Mp} : ∀ {l : List AV} {l' : List Value}, LRel M l l' → l.all AV.one = true → ∀ v ∈ l', v.oneCell' = true
  | _, _, .nil, _, v, hv => by cases hv
  | _, _, .cons hx t, h1, v, hv => by
    simp only [List.all_cons, Bool.and_eq_true] at h1
    rcases List.mem_cons.1 hv with rfl | hv
    · exact hx.one h1.1
    · exact LRel.all_one t h1.2 v hv
/-- Cells are written: what the model does, and what holds then. -/
theorem write_at (H : HRel P B M h w) {b o : Nat} {c : Tr AV} {n e : Nat} {z : Bool} {p : Pl} (hb : h.at_ b = .cells c n e z) (hp : M b = some p) (hz : z = false) (hg : ¬ b < P.globals.size) {l : List AV} {l' : List Value} (hl : LRel M l l')
    (h1 : l.all AV.one = true) (hle : o + l.length ≤ n) :
    (storeCells ⟨p.cb, p.base + o, none⟩ l').run P w = .ok () (w.setCells p.cb (p.base + o) l') ∧ HRel P B M (h.put b (.cells (putL l o c) n e z)) (w.setCells p.cb (p.base + o) l') ∧ Below B.n w (w.setCells p.cb (p.base + o) l') := by
  obtain ⟨q, arr, f, hq, hh, hsz, hzz, hn, hc, hf⟩ := H.cells hb hp
  rw [hp] at hq; cases hq
  have hlen := hl.length
  have hB : B.n ≤ p.cb := (H.own b p hp).resolve_left hg
  have hone := hl.all_one h1
  have hrun := run_storeCells_cells (P := P) p.cb (p.base + o) l' 0 w
    (fun j hj => by
      rw [cell_of hh]
      have : p.base + o + j < arr.size := by omega
      simp [this])
    (fun j hj => frozen_of hh (hf hz _ (by omega) (by omega))) hone
  obtain ⟨arr', a1, a2, a3, a4, a5, a6, a7, a8⟩ := setCells_heap p.cb e f l' (p.base + o) arr w hh
  have hal : h.at_ b ≠ .none := by rw [hb]; simp
  refine ⟨by simpa using hrun, H.put hp a4 a5 hal _ ?_, ⟨a6, a7, a8, by omega, fun k hk => a5 k (by omega)⟩⟩
  refine ⟨arr', f, a1, by omega, hzz, by omega, fun i hi => ?_, fun hz' i h1 h2 => hf hz' i h1 (by omega)⟩
  rw [a3 _ (by omega), putL_get]
  by_cases hin : o ≤ i ∧ i < o + l.length
  · rw [if_pos hin, if_pos (by omega)]
    refine ⟨_, rfl, ?_⟩
    have e1 : p.base + i - (p.base + o) = i - o := by omega
    rw [e1]
    have hlt : i - o < l'.length := by omega
    exact hl.get (i - o) _ (by simp [List.getD, hlt])
  · rw [if_neg hin, if_neg (by omega)]
    exact hc i hi
/-- A write of the evaluator's, or none. -/
theorem write_split (H : HRel P B M h w) (b o : Nat) {p : Pl} (hp : M b = some p) {l : List AV} {l' : List Value} (hl : l.all AV.one = true → LRel M l l') (d : β) (k : AH → β) :
    (∃ h', (storeCells ⟨p.cb, p.base + o, none⟩ l').run P w = .ok () (w.setCells p.cb (p.base + o) l') ∧ HRel P B M h' (w.setCells p.cb (p.base + o) l') ∧ Below B.n w (w.setCells p.cb (p.base + o) l') ∧ LRel M l l' ∧ h.write P b o l d k = k h') ∨ h.write P b o l d k = d := by
  unfold AH.write
  rcases Blk.cells_split (h.at_ b) d (fun c n e z => cond z d (cond (Nat.blt b P.globals.size) d (cond (allL AV.one l) (cond (Nat.ble (Nat.add o (lenL l)) n) (k (h.put b (.cells (putL l o c) n e z))) d) d))) with ⟨c, n, e, z, hb, e1⟩ | e1 <;> rw [e1]
  · cases z with
    | true => exact .inr rfl
    | false =>
      rw [cond_false, bltN, allL_eq, bleN, lenL_eq]
      by_cases hg : b < P.globals.size
      · rw [decide_eq_true hg]; exact .inr rfl
      · rw [decide_eq_false hg, cond_false]
        cases h1 : l.all AV.one with
        | false => exact .inr rfl
        | true =>
          rw [cond_true]
          by_cases hle : Nat.add o l.length ≤ n
          · rw [decide_eq_true hle, cond_true]
            obtain ⟨a1, a2, a3⟩ := write_at H hb hp rfl hg (hl h1) h1 hle
            exact .inl ⟨_, a1, a2, a3, hl h1, rfl⟩
          · rw [decide_eq_false hle]; exact .inr rfl
  · exact .inr rfl
theorem store_sound (t : Nat) {a v : AV} {x y : Value} (ha : VRel M a x) (hv : VRel M v y) (H : HRel P B M h w) : SU P B M w (Instr.storeAt t x y) (storeOp P t a v h) := by
  unfold storeOp
  rcases AV.ptr_split ha OR.fail (fun b o => sizeA P t .fail fun s => cond (Nat.beq s (lenL v.cells)) (h.write P b o v.cells .fail fun h => .skip h) .fail) with ⟨b, o, p, rfl, hp, rfl, e⟩ | e <;> rw [e]
  · rcases sizeA_split (P := P) t OR.fail (fun s => cond (Nat.beq s (lenL v.cells)) (h.write P b o v.cells .fail fun h => .skip h) .fail) with ⟨i, hi, e⟩ | e <;> rw [e]
    · rw [beqN, lenL_eq]
      by_cases hs : i.size = v.cells.length
      · rw [decide_eq_true hs, cond_true]
        rcases write_split (l' := y.cells.toList) H b o hp (l := v.cells) (fun h1 => hv.cells (by rintro rfl; cases h1)) OR.fail (fun h => .skip h) with ⟨h', a1, a2, a3, a4, e⟩ | e <;> rw [e]
        · refine ⟨M, _, ?_, Mp.le.refl M, a2, a3⟩
          have hlen : y.cells.size = i.size := by have := a4.length; simp at this; omega
          simp [Instr.storeAt, Instr.sureAddr, storeVar, run_sizeOf' hi, hlen, a1]
        · trivial
      · rw [decide_eq_false hs]; trivial
    · trivial
  · trivial

/-! ### places -/
theorem natA_split {v : AV} {x : Value} (hv : VRel M v x) (d : β) (f : Nat → β) : (∃ k n, x = .int k (Int.ofNat n) ∧ v = .int k (Int.ofNat n) ∧ natA v d f = f n) ∨ natA v d f = d := by
  cases hv with
  | int k n => cases n with
    | ofNat n => exact .inl ⟨k, n, rfl, rfl, rfl⟩
    | negSucc n => exact .inr rfl
  | _ => exact .inr rfl
theorem add_base (cb base o n : Nat) : (⟨cb, base + o, none⟩ : Addr).add n = ⟨cb, base + (o + n), none⟩ := by
  unfold Addr.add
  split
  · subst_vars; rfl
  · simp [Nat.add_assoc]
theorem nth_some (l : List α) (i : Nat) : nth none (l.map some) i = l[i]? := by
  rw [nth_eq]
  simp only [List.getD, List.getElem?_map]
  cases l[i]? <;> rfl
theorem fieldAddr_sound (t : Nat) (f : Nat) {a : AV} {x : Value} (ha : VRel M a x) (H : HRel P B M h w) : SV P B M w (Instr.fieldAt t x f) (fieldAddrOp P t a f h) := by
  unfold fieldAddrOp
  split
  · rename_i fs hu
    rw [nth_some]
    cases hf : fs.toList[f]? with
    | none => trivial
    | some fl =>
      show SV P B M w _ (a.elimPtr .fail fun b o => sizeA P fl.type .fail fun s => cond (Nat.beq s 0) .fail (fN (Nat.add o fl.offset) fun o => .val (.ptr b o) h))
      rcases AV.ptr_split ha OR.fail (fun b o => sizeA P fl.type .fail fun s => cond (Nat.beq s 0) .fail (fN (Nat.add o fl.offset) fun o => .val (.ptr b o) h)) with ⟨b, o, p, rfl, hp, rfl, e⟩ | e <;> rw [e]
      · rcases sizeA_split (P := P) fl.type OR.fail (fun s => cond (Nat.beq s 0) .fail (fN (Nat.add o fl.offset) fun o => .val (.ptr b o) h)) with ⟨i, hi, e⟩ | e <;> rw [e]
        · rw [beqN, fN_eq]
          by_cases h0 : i.size = 0
          · rw [decide_eq_true h0]; trivial
          · rw [decide_eq_false h0, cond_false]
            have hf' : fs[f]? = some fl := by rw [← hf]; simp
            refine .here H (v' := .pointer (some ⟨p.cb, p.base + (o + fl.offset), none⟩)) ?_ (.ptr hp)
            simp [Instr.fieldAt, run_underlying hu, hf', Instr.sureAddr, fieldPlace, run_sizeOf' hi, h0, add_base]
        · trivial
      · trivial
  · trivial
theorem sl_split {a : AV} {x : Value} (ha : VRel M a x) (d f0 : β) (f : Nat → Nat → Nat → Option Nat → β) :
    (a = .sl0 ∧ x = .slice none 0 0 ∧ a.elimSl d f0 f = f0) ∨
    (∃ b off len cap p ad ccap, a = .sl b off len cap ∧ x = .slice (some ad) len ccap ∧ M b = some p ∧ len ≤ ccap ∧ ccap ≤ 9223372036854775807 ∧ (∀ c, cap = some c → ccap = c) ∧ (ccap ≠ 0 → ad = ⟨p.cb, p.base + off, none⟩) ∧ (cap = none → p.base + off + ccap * p.z ≤ p.size) ∧ a.elimSl d f0 f = f b off len cap) ∨
    a.elimSl d f0 f = d := by
  cases ha with
  | sl0 => exact .inl ⟨rfl, rfl, rfl⟩
  | sl h1 hl hm hk ha hz => exact .inr (.inl ⟨_, _, _, _, _, _, _, rfl, rfl, h1, hl, hm, hk, ha, hz, rfl⟩)
  | _ => exact .inr (.inr rfl)
theorem indexAddr_sound (t : Nat) {a i : AV} {x y : Value} (ha : VRel M a x) (hi : VRel M i y) (H : HRel P B M h w) : SV P B M w (Instr.indexAt t x y) (indexAddrOp P t a i h) := by
  unfold indexAddrOp
  split
  · rename_i e hu
    rcases natA_split hi OR.fail (fun i => a.elimSl .fail .fail fun b o n _ => cond (Nat.blt i n) (sizeA P e .fail fun s => fN (Nat.add o (Nat.mul i s)) fun o => .val (.ptr b o) h) .fail) with ⟨k, n, rfl, rfl, e1⟩ | e1 <;> rw [e1]
    · rcases sl_split ha OR.fail OR.fail (fun b o m _ => cond (Nat.blt n m) (sizeA P e .fail fun s => fN (Nat.add o (Nat.mul n s)) fun o => .val (.ptr b o) h) .fail) with ⟨_, _, e1⟩ | ⟨b, off, len, cap, p, ad, ccap, rfl, rfl, hp, hl, hm, hk, hA, hz, e1⟩ | e1 <;> rw [e1]
      · trivial
      · rw [bltN]
        by_cases hlt : n < len
        · rw [decide_eq_true hlt, cond_true]
          rcases sizeA_split (P := P) e OR.fail (fun s => fN (Nat.add off (Nat.mul n s)) fun o => .val (.ptr b o) h) with ⟨j, hj, e1⟩ | e1 <;> rw [e1]
          · rw [fN_eq]
            have hA' := hA (by omega)
            subst hA'
            refine .here H (v' := .pointer (some ⟨p.cb, p.base + (off + n * j.size), none⟩)) ?_ (.ptr hp)
            have hc : (0 : Int) ≤ Int.ofNat n ∧ Int.ofNat n < ((len : Nat) : Int) := ⟨by simp, by simpa using hlt⟩
            have ht : (Int.ofNat n).toNat = n := rfl
            simp only [Instr.indexAt, asIntOf, Sem.run_bind, Sem.run_pure, Result.andThen_ok, run_underlying hu, hc, and_self, if_true, run_sizeOf' hj, ht, add_base]
          · trivial
        · rw [decide_eq_false hlt]; trivial
      · trivial
    · trivial
  · rename_i m e hu
    rcases natA_split hi OR.fail (fun i => a.elimPtr .fail fun b o => cond (Nat.blt i m) (sizeA P e .fail fun s => fN (Nat.add o (Nat.mul i s)) fun o => .val (.ptr b o) h) .fail) with ⟨k, n, rfl, rfl, e1⟩ | e1 <;> rw [e1]
    · rcases AV.ptr_split ha OR.fail (fun b o => cond (Nat.blt n m) (sizeA P e .fail fun s => fN (Nat.add o (Nat.mul n s)) fun o => .val (.ptr b o) h) .fail) with ⟨b, o, p, rfl, hp, rfl, e1⟩ | e1 <;> rw [e1]
      · rw [bltN]
        by_cases hlt : n < m
        · rw [decide_eq_true hlt, cond_true]
          rcases sizeA_split (P := P) e OR.fail (fun s => fN (Nat.add o (Nat.mul n s)) fun o => .val (.ptr b o) h) with ⟨j, hj, e1⟩ | e1 <;> rw [e1]
          · rw [fN_eq]
            refine .here H (v' := .pointer (some ⟨p.cb, p.base + (o + n * j.size), none⟩)) ?_ (.ptr hp)
            have hc : (0 : Int) ≤ Int.ofNat n ∧ Int.ofNat n < ((m : Nat) : Int) := ⟨by simp, by simpa using hlt⟩
            have ht : (Int.ofNat n).toNat = n := rfl
            simp only [Instr.indexAt, asIntOf, Instr.sureAddr, Sem.run_bind, Sem.run_pure, Result.andThen_ok, run_underlying hu, hc, and_self, if_true, run_sizeOf' hj, ht, add_base]
          · trivial
        · rw [decide_eq_false hlt]; trivial
      · trivial
    · trivial
  · trivial

/-! ### parts -/
theorem part_split (t : Nat) {cs : List AV} {cs' : Array Value} (hc : LRel M cs cs'.toList) (o : Nat) (w : World) (d : β) (k : AV → β) :
    (∃ v v', (part t cs' o).run P w = .ok v' w ∧ VRel M v v' ∧ partA P t cs o d k = k v) ∨ partA P t cs o d k = d := by
  unfold partA
  have hlen : cs'.size = cs.length := by have := hc.length; simpa using this
  rcases aggA_split (P := P) t d (sizeA P t d fun s => cond (Nat.ble (Nat.add o s) (lenL cs)) (k (.agg (takeL s (dropL o cs)))) d) (cond (Nat.blt o (lenL cs)) (k (nth .junk cs o)) d) with ⟨x, hx, hag, e⟩ | ⟨x, hx, hag, e⟩ | e <;> rw [e]
  · rcases sizeA_split (P := P) t d (fun s => cond (Nat.ble (Nat.add o s) (lenL cs)) (k (.agg (takeL s (dropL o cs)))) d) with ⟨i, hi, e⟩ | e <;> rw [e]
    · rw [bleN, lenL_eq]
      by_cases hle : Nat.add o i.size ≤ cs.length
      · rw [decide_eq_true hle, cond_true, takeL_eq, dropL_eq]
        refine .inl ⟨_, .agg (cs'.extract o (o + i.size)), ?_, .agg ?_, rfl⟩
        · simp [part, run_isAgg' hx, hag, run_sizeOf' hi]
        · rw [Array.toList_extract, List.extract_eq_take_drop]
          simpa using (hc.drop o).take i.size
      · rw [decide_eq_false hle]; exact .inr rfl
    · exact .inr rfl
  · rw [bltN, lenL_eq]
    by_cases hlt : o < cs.length
    · rw [decide_eq_true hlt, cond_true, nth_eq]
      have hlt' : o < cs'.size := by omega
      refine .inl ⟨_, cs'[o], ?_, hc.get o _ (by simp [hlt']), rfl⟩
      simp [part, run_isAgg' hx, hag, hlt']
    · rw [decide_eq_false hlt]; exact .inr rfl
  · exact .inr rfl
theorem agg_split {a : AV} {x : Value} (ha : VRel M a x) (d : β) (f : List AV → β) : (∃ l l', a = .agg l ∧ x = .agg l' ∧ LRel M l l'.toList ∧ a.elimAgg d f = f l) ∨ a.elimAgg d f = d := by
  cases ha with
  | agg h => exact .inl ⟨_, _, rfl, rfl, h, rfl⟩
  | _ => exact .inr rfl
theorem str_split {a : AV} {x : Value} (ha : VRel M a x) (d : β) (f : List Nat → β) : (∃ s, a = .str (natsOf s) ∧ x = .string s ∧ a.elimStr d f = f (natsOf s)) ∨ a.elimStr d f = d := by
  cases ha with
  | str s => exact .inl ⟨_, rfl, rfl, rfl⟩
  | _ => exact .inr rfl
theorem natsOf_get (s : ByteArray) (i : Nat) (hi : i < s.size) : (natsOf s).getD i 0 = (s[i]'hi).toNat := by
  have e : s.data.toList[i]? = some (s.data[i]'hi) := by rw [Array.getElem?_toList]; exact Array.getElem?_eq_getElem hi
  simp only [natsOf, List.getD, List.getElem?_map, e]; rfl
theorem index_sound (t : Nat) {a i : AV} {x y : Value} (ha : VRel M a x) (hi : VRel M i y) (H : HRel P B M h w) : SV P B M w (Instr.index t x y) (indexOp P t a i h) := by
  unfold indexOp
  split
  · rename_i hu
    rcases natA_split hi OR.fail (fun i => a.elimStr .fail fun l => cond (Nat.blt i (lenL l)) (.val (.int .u8 (Int.ofNat (nth 0 l i))) h) .fail) with ⟨k, n, rfl, rfl, e1⟩ | e1 <;> rw [e1]
    · rcases str_split ha OR.fail (fun l => cond (Nat.blt n (lenL l)) (.val (.int .u8 (Int.ofNat (nth 0 l n))) h) .fail) with ⟨s, rfl, rfl, e1⟩ | e1 <;> rw [e1]
      · rw [bltN, lenL_eq, natsOf_size, nth_eq]
        by_cases hlt : n < s.size
        · rw [decide_eq_true hlt, cond_true, natsOf_get s n hlt]
          refine .here H ?_ (.int .u8 _)
          have ht : (Int.ofNat n).toNat = n := rfl
          have h0 : (0 : Int) ≤ Int.ofNat n := by simp
          simp only [Instr.index, asIntOf, Sem.run_bind, Sem.run_pure, Result.andThen_ok, run_underlying hu, h0, if_true, ht]
          simp [hlt]
        · rw [decide_eq_false hlt]; trivial
      · trivial
    · trivial
  · rename_i m e hu
    rcases natA_split hi OR.fail (fun i => a.elimAgg .fail fun cs => cond (Nat.blt i m) (sizeA P e .fail fun s => partA P e cs (Nat.mul i s) .fail fun v => .val v h) .fail) with ⟨k, n, rfl, rfl, e1⟩ | e1 <;> rw [e1]
    · rcases agg_split ha OR.fail (fun cs => cond (Nat.blt n m) (sizeA P e .fail fun s => partA P e cs (Nat.mul n s) .fail fun v => .val v h) .fail) with ⟨l, l', rfl, rfl, hl, e1⟩ | e1 <;> rw [e1]
      · rw [bltN]
        by_cases hlt : n < m
        · rw [decide_eq_true hlt, cond_true]
          rcases sizeA_split (P := P) e OR.fail (fun s => partA P e l (Nat.mul n s) .fail fun v => .val v h) with ⟨j, hj, e1⟩ | e1 <;> rw [e1]
          · rcases part_split (P := P) e hl (Nat.mul n j.size) w OR.fail (fun v => .val v h) with ⟨v, v', hr, hv, e1⟩ | e1 <;> rw [e1]
            · refine .here H ?_ hv
              have hc : (0 : Int) ≤ Int.ofNat n ∧ Int.ofNat n < ((m : Nat) : Int) := ⟨by simp, by simpa using hlt⟩
              have ht : (Int.ofNat n).toNat = n := rfl
              have hr' : (part e l' (n * j.size)).run P w = .ok v' w := hr
              simp only [Instr.index, asIntOf, Sem.run_bind, Sem.run_pure, Result.andThen_ok, run_underlying hu, hc, and_self, if_true, run_sizeOf' hj, ht, hr']
            · trivial
          · trivial
        · rw [decide_eq_false hlt]; trivial
      · trivial
    · trivial
  · trivial
theorem field_sound (t : Nat) (f : Nat) {a : AV} {x : Value} (ha : VRel M a x) (H : HRel P B M h w) : SV P B M w (Instr.field t x f) (fieldOp P t a f h) := by
  unfold fieldOp
  split
  · rename_i fs hu
    rw [nth_some]
    cases hf : fs.toList[f]? with
    | none => trivial
    | some fl =>
      show SV P B M w _ (a.elimAgg .fail fun cs => partA P fl.type cs fl.offset .fail fun v => .val v h)
      rcases agg_split ha OR.fail (fun cs => partA P fl.type cs fl.offset .fail fun v => .val v h) with ⟨l, l', rfl, rfl, hl, e1⟩ | e1 <;> rw [e1]
      · rcases part_split (P := P) fl.type hl fl.offset w OR.fail (fun v => .val v h) with ⟨v, v', hr, hv, e1⟩ | e1 <;> rw [e1]
        · have hf' : fs[f]? = some fl := by rw [← hf]; simp
          exact .here H (by simp [Instr.field, run_underlying hu, hf', asAgg, hr]) hv
        · trivial
      · trivial
  · trivial
theorem extract_sound (i : Nat) {a : AV} {x : Value} (ha : VRel M a x) (H : HRel P B M h w) : SV P B M w (Instr.extract x i) (extractOp a i h) := by
  unfold extractOp
  cases ha with
  | tup hl =>
    rename_i l l'
    show SV P B M w _ (cond (Nat.blt i (lenL l)) (.val (nth .junk l i) h) .fail)
    rw [bltN, lenL_eq, nth_eq]
    have hlen : l'.size = l.length := by have := hl.length; simpa using this
    by_cases hlt : i < l.length
    · rw [decide_eq_true hlt, cond_true]
      have hlt' : i < l'.size := by omega
      exact .here H (v' := l'[i]) (by simp [Instr.extract, hlt']) (hl.get i _ (by simp [hlt']))
    · rw [decide_eq_false hlt]; trivial
  | _ => trivial
end
end Go.Ev
