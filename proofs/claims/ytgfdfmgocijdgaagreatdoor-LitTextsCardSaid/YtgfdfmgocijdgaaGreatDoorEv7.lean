/- Calls; operations that only read; regions in every order. -/
import Derived.Test.YtgfdfmgocijdgaaGreatDoorEv6
import Derived.Orders
namespace Go.Ev
open Go Go.RowKit
variable {α β : Type}

theorem nthK_split (l : List α) : ∀ (n : Nat) (d : β) (k : α → β), (∃ x, l[n]? = some x ∧ nthK l n d k = k x) ∨ nthK l n d k = d := by
  induction l with
  | nil => intro n d k; right; rfl
  | cons x l ih =>
    intro n d k
    cases n with
    | zero => left; exact ⟨x, rfl, rfl⟩
    | succ n =>
      rcases ih n d k with ⟨y, h1, h2⟩ | h2
      · left; exact ⟨y, by simpa using h1, h2⟩
      · right; exact h2
theorem eqB_eq (a b : Bool) : wantedA.eqB a b = (a == b) := by cases a <;> cases b <;> rfl
theorem dstOf_eq (o : Oper) : dstOf o = o.dst := rfl

/-- Deferred calls. -/
inductive DRel (M : Mp) : List ADef → List Deferred → Prop
  | nil : DRel M [] []
  | cons {d : ADef} {c dargs : Array Value} {l : List ADef} {l' : List Deferred} (h : LRel M d.args (dargs ++ c).toList) (t : DRel M l l') : DRel M (d :: l) (⟨.fn (.func d.f) c, dargs⟩ :: l')
theorem DRel.mono {M M' : Mp} (hM : M.le M') : ∀ {l : List ADef} {l' : List Deferred}, DRel M l l' → DRel M' l l'
  | _, _, .nil => .nil
  | _, _, .cons h t => .cons (h.mono hM) (DRel.mono hM t)

/-- The temporaries, but for those that are left out. -/
structure ARel (n : Nat) (X : Nat → Prop) (M : Mp) (τ : Tr AV) (ds : List ADef) (a : Act) : Prop where
  sz : n ≤ a.tmps.size
  tmp : ∀ t, ¬ X t → VRel M (τ.get .junk (toP t)) (a.tmps.getD t undef)
  dfr : DRel M ds a.defers
abbrev noX : Nat → Prop := fun _ => False

section
variable {P : Program} {B : Bd} {M : Mp} {h : AH} {w : World} {n : Nat} {X : Nat → Prop} {τ : Tr AV} {ds : List ADef} {a : Act}

theorem ARel.mono {M' : Mp} (A : ARel n X M τ ds a) (hM : M.le M') : ARel n X M' τ ds a := ⟨A.sz, fun t ht => (A.tmp t ht).mono hM, A.dfr.mono hM⟩
theorem ARel.put (A : ARel n X M τ ds a) {M' : Mp} (hM : M.le M') {v : AV} {v' : Value} (hv : VRel M' v v') {dst : Option Tmp} (hd : ∀ d, dst = some d → d < n) : ARel n X M' (putT dst v τ) ds (a.put dst v') := by
  cases dst with
  | none => exact A.mono hM
  | some d =>
    have hd := hd d rfl
    refine ⟨by show n ≤ (a.tmps.setIfInBounds d v').size; rw [Array.size_setIfInBounds]; exact A.sz, fun t ht => ?_, A.dfr.mono hM⟩
    show VRel M' ((τ.set .junk v (toP d)).get .junk (toP t)) ((a.tmps.setIfInBounds d v').getD t undef)
    by_cases e : t = d
    · subst e
      rw [Tr.get_set_self, Array.getD_eq_getD_getElem?, Array.getElem?_setIfInBounds_self_of_lt (Nat.lt_of_lt_of_le hd A.sz)]
      exact hv
    · rw [Tr.get_set_other _ _ _ _ _ (toP_ne (Ne.symm e)), Array.getD_eq_getD_getElem?, Array.getElem?_setIfInBounds_ne (Ne.symm e), ← Array.getD_eq_getD_getElem?]
      exact (A.tmp t ht).mono hM

/-- What the evaluator asks of an operation's text. -/
def opndB (G : Nat) : Operand → Bool
  | .global g => decide (g < G)
  | _ => true
def opOkB (G n : Nat) (o : Oper) : Bool := (match o.dst with | some d => decide (d < n) | none => true) && o.op.operands.all (opndB G)
theorem opOk_dst {G : Nat} {o : Oper} (h : opOkB G n o = true) (d : Nat) (hd : o.dst = some d) : d < n := by
  simp [opOkB, hd] at h; exact h.1
theorem opnd_rel (H : HRel P B M h w) (A : ARel n X M τ ds a) (x : Operand) (hx : ∀ t, x = .tmp t → ¬ X t) (hg : opndB P.globals.size x = true) : ORel M τ a.eval x := by
  cases x with
  | tmp t => exact A.tmp t (hx t rfl)
  | const v => exact ofConst_rel v
  | global g =>
    have hlt : g < P.globals.size := by simpa [opndB] using hg
    obtain ⟨s, z, e⟩ := H.glob g hlt
    exact .ptr (off := 0) e
  | func f => exact .func _ .nil .nil
theorem opnds_rel (H : HRel P B M h w) (A : ARel n X M τ ds a) {o : Oper} (hx : ∀ t, .tmp t ∈ o.op.operands → ¬ X t) (hg : opOkB P.globals.size n o = true) : ∀ x ∈ o.op.operands, ORel M τ a.eval x := by
  intro x hm
  refine opnd_rel H A x (fun t e => hx t (e ▸ hm)) ?_
  simp only [opOkB, Bool.and_eq_true] at hg
  exact Array.all_eq_true_iff_forall_mem.1 hg.2 x hm

/-- Whether an operation is wanted, as the evaluator sees it. -/
theorem wanted_split (ops : Array Oper) (o : Oper) (A : ARel n X M τ ds a) (hX : ∀ g b, o.guard = some (g, b) → ∀ t, (ops[g]?).bind (·.dst) = some t → ¬ X t) (d yes no : β) :
    (Region.wanted o (yielded ops a.tmps) = true ∧ wantedA ops.toList o.guard τ d yes no = yes) ∨ (Region.wanted o (yielded ops a.tmps) = false ∧ wantedA ops.toList o.guard τ d yes no = no) ∨ wantedA ops.toList o.guard τ d yes no = d := by
  unfold Region.wanted
  cases hg : o.guard with
  | none => left; exact ⟨rfl, rfl⟩
  | some jw =>
    obtain ⟨j, want⟩ := jw
    have hX := hX j want hg
    simp only
    show (_ ∧ nthK ops.toList j d _ = yes) ∨ (_ ∧ nthK ops.toList j d _ = no) ∨ nthK ops.toList j d _ = d
    rcases nthK_split ops.toList j d (fun o => Option.rec (motive := fun _ => β) d (fun t => (τ.get .junk (toP t)).elimBool d fun b => cond (wantedA.eqB b want) yes no) (dstOf o)) with ⟨oj, hj, e⟩ | e
    · rw [e]
      have hj' : ops[j]? = some oj := by simpa using hj
      cases hd : oj.dst with
      | none => right; right; show (Option.rec _ _ oj.dst : β) = d; rw [hd]
      | some t =>
        have ht := A.tmp t (hX t (by simp [hj', hd]))
        have he : ((Option.rec d (fun t => (τ.get .junk (toP t)).elimBool d fun b => cond (wantedA.eqB b want) yes no) (dstOf oj) : β)) = (τ.get .junk (toP t)).elimBool d fun b => cond (wantedA.eqB b want) yes no := by rw [dstOf_eq, hd]
        rw [he]
        obtain ⟨x, hx⟩ : ∃ x, τ.get .junk (toP t) = x := ⟨_, rfl⟩
        obtain ⟨y, hy⟩ : ∃ y, a.tmps.getD t undef = y := ⟨_, rfl⟩
        rw [hx, hy] at ht
        rw [hx]
        cases ht with
        | bool b =>
          have hyl : yielded ops a.tmps j = some b := by
            unfold yielded
            rw [hj']
            simp only [Option.bind_some, hd]
            rw [Array.getD_eq_getD_getElem?] at hy
            cases hq : a.tmps[t]? with
            | none => rw [hq] at hy; cases hy
            | some q => rw [hq] at hy; simp at hy; rw [hy]
          rw [hyl]
          show (_ ∧ cond (wantedA.eqB b want) yes no = yes) ∨ (_ ∧ cond (wantedA.eqB b want) yes no = no) ∨ cond (wantedA.eqB b want) yes no = d
          rw [eqB_eq]
          cases b <;> cases want <;> simp
        | _ => right; right; rfl
    · right; right; exact e

/-- What code comes to. -/
def Core (P : Program) (n : Nat) (B : Bd) (M : Mp) (w₀ : World) (τ : Tr AV) (ds : List ADef) (h : AH) (a : Act) (w : World) : Prop :=
  ∃ M', M.le M' ∧ ARel n noX M' τ ds a ∧ HRel P B M' h w ∧ Below B.n w₀ w
def XQ (P : Program) (n : Nat) (B : Bd) (M : Mp) (w₀ : World) : XR → Exit → Act → World → Prop
  | .norm τ ds h, e, a, w => e = .normal ∧ Core P n B M w₀ τ ds h a w
  | .exit id τ ds h, e, a, w => e = .exit id ∧ Core P n B M w₀ τ ds h a w
  | .goto l τ ds h, e, a, w => e = .goto l ∧ Core P n B M w₀ τ ds h a w
  | .ret τ ds h, e, a, w => e = .ret ∧ Core P n B M w₀ τ ds h a w
  | .pan v τ ds h, e, a, w => ∃ v' M', e = .panic [{ v := v', recovered := false }] ∧ M.le M' ∧ VRel M' v v' ∧ ARel n noX M' τ ds a ∧ HRel P B M' h w ∧ Below B.n w₀ w
  | .fail, _, _, _ => False
theorem Core.base {M' : Mp} {w₀ w₁ : World} {a : Act} (hM : M.le M') (hw : Below B.n w₀ w₁) (c : Core P n B M' w₁ τ ds h a w) : Core P n B M w₀ τ ds h a w := by
  obtain ⟨M₂, h1, h2, h3, h4⟩ := c
  exact ⟨M₂, hM.trans h1, h2, h3, hw.trans h4⟩
theorem XQ.base {M' : Mp} {w₀ w₁ : World} {r : XR} {e : Exit} (hM : M.le M') (hw : Below B.n w₀ w₁) (q : XQ P n B M' w₁ r e a w) : XQ P n B M w₀ r e a w := by
  cases r with
  | norm => exact ⟨q.1, q.2.base hM hw⟩
  | exit => exact ⟨q.1, q.2.base hM hw⟩
  | goto => exact ⟨q.1, q.2.base hM hw⟩
  | ret => exact ⟨q.1, q.2.base hM hw⟩
  | pan =>
    obtain ⟨v', M₂, h0, h1, h2, h3, h4, h5⟩ := q
    exact ⟨v', M₂, h0, hM.trans h1, h2, h3, h4, hw.trans h5⟩
  | fail => exact q

/-- What a call comes to. -/
def CQ (P : Program) (B : Bd) (M : Mp) (w₀ : World) : CR → Ending → World → Prop
  | .ret v h, e, w => ∃ v' M', e = .returned v' ∧ M.le M' ∧ VRel M' v v' ∧ HRel P B M' h w ∧ Below B.n w₀ w
  | .pan v h, e, w => ∃ v' M', e = .panicked [{ v := v', recovered := false }] ∧ M.le M' ∧ VRel M' v v' ∧ HRel P B M' h w ∧ Below B.n w₀ w
  | .fail, _, _ => False
/-- A call, of a function with a body or without. -/
def CallT (P : Program) (f : Nat) (args : Array Value) (w : World) (R : Ending → World → Prop) : Prop :=
  match (callFunc f args).run P w with
  | .ok (.value v) w' => R (.returned v) w'
  | .ok (.enter g as) w' => Calls P g as w' R
  | .ok (.row row as) w' => Rows P row as w' fun v w'' => R (.returned v) w''
  | _ => False
/-- What is asked of the world at every call, besides: it stays, whatever happens above the bound. -/
def IClosed (I : Bd → World → Prop) : Prop := ∀ B w w', I B w → Below B.n w w' → I B w'
def CallOk (P : Program) (I : Bd → World → Prop) (call : CallF) : Prop := ∀ f args args' B M h w, LRel M args args'.toList → HRel P B M h w → I B w → call f args h ≠ .fail → CallT P f args' w (CQ P B M w (call f args h))

theorem CallT.upon {f : Nat} {args : Array Value} {R : Ending → World → Prop} (c : CallT P f args w R) (o : Oper) (a : Act) {next : Act → World → Prop} {Q : Exit → Act → World → Prop}
    (hr : ∀ v w', R (.returned v) w' → next (a.put o.dst v) w') (hp : ∀ ch w', R (.panicked ch) w' → Q (.panic ch) a w') (ho : ∀ w', ¬ R .outgrown w') : o.upon P a next Q ((callFunc f args).run P w) := by
  unfold CallT at c
  generalize (callFunc f args).run P w = r at *
  cases r with
  | ok x w' =>
    cases x with
    | value v => exact hr v w' c
    | enter g as =>
      refine Calls.mono c fun e w'' he => ?_
      cases e with
      | returned v => exact hr v w'' he
      | panicked ch => exact hp ch w'' he
      | outgrown => exact absurd he (ho w'')
    | row row as => exact Rows.mono c fun v w'' he => hr v w'' he
    | _ => exact c.elim
  | halt x w' => exact c.elim

/-- One operation. -/
theorem orK_sound {I : Bd → World → Prop} (hI : IClosed I) {call : CallF} (hcall : CallOk P I call) {o : Oper} {k : CodeF} {r : XR} {Q : Exit → Act → World → Prop} {w₀ : World} {M₀ : Mp} (hQ : ∀ e a w, XQ P n B M₀ w₀ r e a w → Q e a w)
    (hI₀ : I B w₀) (hM₀ : M₀.le M) (hw₀ : Below B.n w₀ w) (A : ARel n noX M τ ds a) (H : HRel P B M h w) (hok : opOkB P.globals.size n o = true) (he : orK call o.dst k τ ds (opF P o.op τ h) = r) (hr : r ≠ .fail)
    {next : Act → World → Prop} (hn : ∀ τ' ds' h' M' a' w', k τ' ds' h' = r → M₀.le M' → ARel n noX M' τ' ds' a' → HRel P B M' h' w' → Below B.n w₀ w' → next a' w') : o.wp P a w next Q := by
  have hs := opF_sound (w := w) o (opnds_rel H A (fun _ _ => id) hok) H
  have hd := opOk_dst hok
  unfold Oper.wp
  cases hop : opF P o.op τ h with
  | val v h' =>
    rw [hop] at hs he
    obtain ⟨M', v', w', h1, h2, h3, h4, h5⟩ := hs
    rw [h1]
    exact hn _ _ _ M' _ _ he (hM₀.trans h2) (A.put h2 h3 hd) h4 (hw₀.trans h5)
  | skip h' =>
    rw [hop] at hs he
    obtain ⟨M', w', h1, h2, h4, h5⟩ := hs
    rw [h1]
    exact hn _ _ _ M' _ _ he (hM₀.trans h2) (A.put h2 (.tup .nil) hd) h4 (hw₀.trans h5)
  | call f args h' =>
    rw [hop] at hs he
    obtain ⟨args', h1, h2, h3⟩ := hs
    rw [h1]
    have he' : callR o.dst k τ ds (call f args h') = r := he
    cases hc : call f args h' with
    | ret v h'' =>
      rw [hc] at he'
      have c := hcall f args args' B M h' w h2 h3 (hI B w₀ w hI₀ hw₀) (by rw [hc]; simp)
      rw [hc] at c
      refine c.upon o a (fun v' w' q => ?_) (fun ch w' q => ?_) (fun w' q => ?_)
      · obtain ⟨v₂, M', e1, e2, e3, e4, e5⟩ := q
        cases e1
        exact hn _ _ _ M' _ _ he' (hM₀.trans e2) (A.put e2 e3 hd) e4 (hw₀.trans e5)
      · obtain ⟨v₂, M', e1, _⟩ := q; cases e1
      · obtain ⟨v₂, M', e1, _⟩ := q; cases e1
    | pan v h'' =>
      rw [hc] at he'
      have c := hcall f args args' B M h' w h2 h3 (hI B w₀ w hI₀ hw₀) (by rw [hc]; simp)
      rw [hc] at c
      refine c.upon o a (fun v' w' q => ?_) (fun ch w' q => ?_) (fun w' q => ?_)
      · obtain ⟨v₂, M', e1, _⟩ := q; cases e1
      · obtain ⟨v₂, M', e1, e2, e3, e4, e5⟩ := q
        cases e1
        refine hQ _ _ _ ?_
        rw [← he']
        exact ⟨v₂, M', rfl, hM₀.trans e2, e3, A.mono e2, e4, hw₀.trans e5⟩
      · obtain ⟨v₂, M', e1, _⟩ := q; cases e1
    | fail => rw [hc] at he'; exact absurd he'.symm hr
  | dfr d h' =>
    rw [hop] at hs he
    obtain ⟨c, dargs, h1, h2, h3⟩ := hs
    rw [h1]
    have A' : ARel n noX M τ (d :: ds) { a with defers := ⟨.fn (.func d.f) c, dargs⟩ :: a.defers } := ⟨A.sz, A.tmp, .cons h2 A.dfr⟩
    exact hn _ _ _ M _ _ he hM₀ (A'.put (Mp.le.refl M) (.tup .nil) hd) h3 hw₀
  | pan v h' =>
    rw [hop] at hs he
    obtain ⟨v', h1, h2, h3⟩ := hs
    rw [h1]
    refine hQ _ _ _ ?_
    rw [← he]
    exact ⟨v', M, rfl, hM₀, h2, A, h3, hw₀⟩
  | rcv h' => rw [hop] at he; exact absurd he.symm hr
  | fail => rw [hop] at he; exact absurd he.symm hr

/-- A region in text order. -/
theorem runOps_sound {I : Bd → World → Prop} (hI : IClosed I) {call : CallF} (hcall : CallOk P I call) {ops : Array Oper} (hok : ops.all (opOkB P.globals.size n) = true) {r : XR} (hr : r ≠ .fail) {w₀ : World} (hI₀ : I B w₀) {M₀ : Mp} :
    ∀ (l : List Oper) (i : Nat), ops.toList.drop i = l → ∀ (τ : Tr AV) (ds : List ADef) (h : AH) (M : Mp) (a : Act) (w : World), runOps P call ops.toList l τ ds h = r → M₀.le M → ARel n noX M τ ds a → HRel P B M h w → Below B.n w₀ w →
      wpOps P ops (XQ P n B M₀ w₀ r) (List.range' i l.length) a w := by
  intro l
  induction l with
  | nil =>
    intro i hi τ ds h M a w he hM A H hw
    subst he
    exact ⟨rfl, M, hM, A, H, hw⟩
  | cons o l ih =>
    intro i hi τ ds h M a w he hM A H hw
    have hget : ops[i]? = some o := by
      have : (ops.toList.drop i)[0]? = some o := by rw [hi]; rfl
      simpa using this
    have htl : ops.toList.drop (i + 1) = l := by
      rw [← List.tail_drop, hi]; rfl
    have ho : opOkB P.globals.size n o = true := Array.all_eq_true_iff_forall_mem.1 hok o (Array.mem_of_getElem? hget)
    rw [List.length_cons, List.range'_succ, wpOps_cons]
    unfold wpOp
    rw [hget]
    simp only
    have he' : wantedA ops.toList o.guard τ .fail (orK call o.dst (runOps P call ops.toList l) τ ds (opF P o.op τ h)) (runOps P call ops.toList l (putT o.dst (.tup []) τ) ds h) = r := he
    rcases wanted_split ops o A (fun _ _ _ _ _ => id) XR.fail (orK call o.dst (runOps P call ops.toList l) τ ds (opF P o.op τ h)) (runOps P call ops.toList l (putT o.dst (.tup []) τ) ds h) with ⟨e1, e2⟩ | ⟨e1, e2⟩ | e2
    · rw [e1, if_pos rfl]
      rw [e2] at he'
      left
      exact orK_sound hI hcall (fun _ _ _ q => q) hI₀ hM hw A H ho he' hr fun τ' ds' h' M' a' w' k1 k2 k3 k4 k5 => ih (i + 1) htl τ' ds' h' M' a' w' k1 k2 k3 k4 k5
    · rw [e1, if_neg (by simp)]
      rw [e2] at he'
      exact ih (i + 1) htl _ _ _ M _ _ he' hM (A.put (Mp.le.refl M) (.tup .nil) (opOk_dst ho)) H hw
    · rw [e2] at he'; exact absurd he'.symm hr
end
end Go.Ev
namespace Go.Ev
open Go Go.RowKit
variable {α β : Type}
/-- What it comes to, if it is a value, leaves the memory as it is. -/
def Stay (h : AH) (r : OR) : Prop := ∀ v h', r = .val v h' → h' = h
variable {P : Program} {h : AH}
theorem stay_val (v : AV) : Stay h (.val v h) := fun _ _ e => by cases e; rfl
theorem stay_fail : Stay h .fail := fun _ _ e => by cases e
theorem stay_pan (v : AV) (h' : AH) : Stay h (.pan v h') := fun _ _ e => by cases e
theorem stay_cond (b : Bool) {x y : OR} (hx : Stay h x) (hy : Stay h y) : Stay h (cond b x y) := by cases b <;> assumption
theorem stay_fN (n : Nat) {k : Nat → OR} (hk : ∀ n, Stay h (k n)) : Stay h (fN n k) := by cases n <;> exact hk _
theorem stay_fI (n : Int) {k : Int → OR} (hk : ∀ n, Stay h (k n)) : Stay h (fI n k) := by rw [fI_eq]; exact hk _
theorem stay_bool (v : AV) {d : OR} {f : Bool → OR} (hd : Stay h d) (hf : ∀ b, Stay h (f b)) : Stay h (v.elimBool d f) := by cases v <;> first | exact hd | exact hf _
theorem stay_int (v : AV) {d : OR} {f : IntKind → Int → OR} (hd : Stay h d) (hf : ∀ k b, Stay h (f k b)) : Stay h (v.elimInt d f) := by cases v <;> first | exact hd | exact hf _ _
theorem stay_str (v : AV) {d : OR} {f : List Nat → OR} (hd : Stay h d) (hf : ∀ b, Stay h (f b)) : Stay h (v.elimStr d f) := by cases v <;> first | exact hd | exact hf _
theorem stay_ptr (v : AV) {d : OR} {f : Nat → Nat → OR} (hd : Stay h d) (hf : ∀ b o, Stay h (f b o)) : Stay h (v.elimPtr d f) := by cases v <;> first | exact hd | exact hf _ _
theorem stay_sl (v : AV) {d z : OR} {f : Nat → Nat → Nat → Option Nat → OR} (hd : Stay h d) (hz : Stay h z) (hf : ∀ b o n c, Stay h (f b o n c)) : Stay h (v.elimSl d z f) := by cases v <;> first | exact hd | exact hz | exact hf _ _ _ _
theorem stay_agg (v : AV) {d : OR} {f : List AV → OR} (hd : Stay h d) (hf : ∀ b, Stay h (f b)) : Stay h (v.elimAgg d f) := by cases v <;> first | exact hd | exact hf _
theorem stay_tup (v : AV) {d : OR} {f : List AV → OR} (hd : Stay h d) (hf : ∀ b, Stay h (f b)) : Stay h (v.elimTup d f) := by cases v <;> first | exact hd | exact hf _
theorem stay_cells (v : Blk) {d : OR} {f : Tr AV → Nat → Nat → Bool → OR} (hd : Stay h d) (hf : ∀ a b c e, Stay h (f a b c e)) : Stay h (v.elimCells d f) := by cases v <;> first | exact hd | exact hf _ _ _ _
theorem stay_map (v : Blk) {d : OR} {f : List (AV × AV) → OR} (hd : Stay h d) (hf : ∀ a, Stay h (f a)) : Stay h (v.elimMap d f) := by cases v <;> first | exact hd | exact hf _
theorem stay_opt {γ : Type} (o : Option γ) {d : OR} {f : γ → OR} (hd : Stay h d) (hf : ∀ x, Stay h (f x)) : Stay h (Option.rec (motive := fun _ => OR) d f o) := by cases o <;> first | exact hd | exact hf _
theorem stay_size (t : Nat) {d : OR} {f : Nat → OR} (hd : Stay h d) (hf : ∀ s, Stay h (f s)) : Stay h (sizeA P t d f) := stay_opt _ hd fun _ => hf _
theorem stay_aggA (t : Nat) {d x y : OR} (hd : Stay h d) (hx : Stay h x) (hy : Stay h y) : Stay h (aggA P t d x y) := stay_opt _ hd fun _ => stay_cond _ hx hy
theorem stay_nat (v : AV) {d : OR} {f : Nat → OR} (hd : Stay h d) (hf : ∀ b, Stay h (f b)) : Stay h (natA v d f) := by
  cases v <;> first | exact hd | skip
  rename_i k n
  cases n <;> first | exact hd | exact hf _
theorem stay_bound (x : Option AV) (d : Nat) {f : OR} {k : Nat → OR} (hf : Stay h f) (hk : ∀ n, Stay h (k n)) : Stay h (bound x d f k) := by
  cases x with
  | none => exact hk d
  | some v => exact stay_nat v hf hk
theorem stay_bounds3 (n c : Nat) (lo hi mx : Option AV) {d : OR} {k : Nat → Nat → Nat → OR} (hd : Stay h d) (hk : ∀ a b c, Stay h (k a b c)) : Stay h (bounds3 n c lo hi mx d k) := by
  refine stay_opt _ ?_ fun m => ?_
  · exact stay_bound _ _ hd fun b => stay_cond _ (stay_bound _ _ hd fun a => stay_cond _ (hk _ _ _) hd) hd
  · exact stay_nat _ hd fun m => stay_cond _ (stay_opt _ hd fun b => stay_nat _ hd fun b => stay_cond _ (stay_bound _ _ hd fun a => stay_cond _ (hk _ _ _) hd) hd) hd
theorem stay_part (t : Nat) (cs : List AV) (o : Nat) {d : OR} {k : AV → OR} (hd : Stay h d) (hk : ∀ v, Stay h (k v)) : Stay h (partA P t cs o d k) :=
  stay_aggA _ hd (stay_size _ hd fun _ => stay_cond _ (hk _) hd) (stay_cond _ (hk _) hd)
theorem stay_loadV (t : Nat) (a : AV) {d : OR} {k : AV → OR} (hd : Stay h d) (hk : ∀ v, Stay h (k v)) : Stay h (loadV P t a h d k) :=
  stay_ptr _ hd fun _ _ => stay_cells _ hd fun _ _ _ _ => stay_aggA _ hd (stay_size _ hd fun _ => stay_cond _ (hk _) hd) (stay_cond _ (hk _) hd)
theorem stay_slCells (x : AV) (s : Nat) {d : OR} {k : List AV → Nat → OR} (hd : Stay h d) (hk : ∀ l n, Stay h (k l n)) : Stay h (slCells x s h d k) :=
  stay_sl _ (stay_str _ hd fun _ => stay_cond _ (hk _ _) hd) (hk _ _) fun _ _ _ _ => stay_cond _ (hk _ _) (stay_cells _ hd fun _ _ _ _ => stay_cond _ (hk _ _) hd)


theorem stay_load (t : Nat) (a : AV) : Stay h (loadOp P t a h) := stay_loadV _ _ stay_fail fun _ => stay_val _
theorem stay_fieldAddr (t : Nat) (a : AV) (f : Nat) : Stay h (fieldAddrOp P t a f h) := by unfold fieldAddrOp; (repeat' (first | (first | exact stay_fail | exact stay_val _ | exact stay_pan _ _ | refine stay_nat _ ?_ fun _ => ?_ | refine stay_bounds3 _ _ _ _ _ ?_ fun _ _ _ => ?_ | refine stay_part _ _ _ ?_ fun _ => ?_ | refine stay_size _ ?_ fun _ => ?_ | refine stay_cond _ ?_ ?_ | refine stay_fN _ fun _ => ?_ | refine stay_fI _ fun _ => ?_ | refine stay_bool _ ?_ fun _ => ?_ | refine stay_int _ ?_ fun _ _ => ?_ | refine stay_str _ ?_ fun _ => ?_ | refine stay_ptr _ ?_ fun _ _ => ?_ | refine stay_sl _ ?_ ?_ fun _ _ _ _ => ?_ | refine stay_agg _ ?_ fun _ => ?_ | refine stay_tup _ ?_ fun _ => ?_ | refine stay_cells _ ?_ fun _ _ _ _ => ?_ | refine stay_map _ ?_ fun _ => ?_ | refine stay_opt _ ?_ fun _ => ?_) | split))
theorem stay_indexAddr (t : Nat) (x i : AV) : Stay h (indexAddrOp P t x i h) := by unfold indexAddrOp; (repeat' (first | (first | exact stay_fail | exact stay_val _ | exact stay_pan _ _ | refine stay_nat _ ?_ fun _ => ?_ | refine stay_bounds3 _ _ _ _ _ ?_ fun _ _ _ => ?_ | refine stay_part _ _ _ ?_ fun _ => ?_ | refine stay_size _ ?_ fun _ => ?_ | refine stay_cond _ ?_ ?_ | refine stay_fN _ fun _ => ?_ | refine stay_fI _ fun _ => ?_ | refine stay_bool _ ?_ fun _ => ?_ | refine stay_int _ ?_ fun _ _ => ?_ | refine stay_str _ ?_ fun _ => ?_ | refine stay_ptr _ ?_ fun _ _ => ?_ | refine stay_sl _ ?_ ?_ fun _ _ _ _ => ?_ | refine stay_agg _ ?_ fun _ => ?_ | refine stay_tup _ ?_ fun _ => ?_ | refine stay_cells _ ?_ fun _ _ _ _ => ?_ | refine stay_map _ ?_ fun _ => ?_ | refine stay_opt _ ?_ fun _ => ?_) | split))
theorem stay_index (t : Nat) (x i : AV) : Stay h (indexOp P t x i h) := by unfold indexOp; (repeat' (first | (first | exact stay_fail | exact stay_val _ | exact stay_pan _ _ | refine stay_nat _ ?_ fun _ => ?_ | refine stay_bounds3 _ _ _ _ _ ?_ fun _ _ _ => ?_ | refine stay_part _ _ _ ?_ fun _ => ?_ | refine stay_size _ ?_ fun _ => ?_ | refine stay_cond _ ?_ ?_ | refine stay_fN _ fun _ => ?_ | refine stay_fI _ fun _ => ?_ | refine stay_bool _ ?_ fun _ => ?_ | refine stay_int _ ?_ fun _ _ => ?_ | refine stay_str _ ?_ fun _ => ?_ | refine stay_ptr _ ?_ fun _ _ => ?_ | refine stay_sl _ ?_ ?_ fun _ _ _ _ => ?_ | refine stay_agg _ ?_ fun _ => ?_ | refine stay_tup _ ?_ fun _ => ?_ | refine stay_cells _ ?_ fun _ _ _ _ => ?_ | refine stay_map _ ?_ fun _ => ?_ | refine stay_opt _ ?_ fun _ => ?_) | split))
theorem stay_field (t : Nat) (x : AV) (f : Nat) : Stay h (fieldOp P t x f h) := by unfold fieldOp; (repeat' (first | (first | exact stay_fail | exact stay_val _ | exact stay_pan _ _ | refine stay_nat _ ?_ fun _ => ?_ | refine stay_bounds3 _ _ _ _ _ ?_ fun _ _ _ => ?_ | refine stay_part _ _ _ ?_ fun _ => ?_ | refine stay_size _ ?_ fun _ => ?_ | refine stay_cond _ ?_ ?_ | refine stay_fN _ fun _ => ?_ | refine stay_fI _ fun _ => ?_ | refine stay_bool _ ?_ fun _ => ?_ | refine stay_int _ ?_ fun _ _ => ?_ | refine stay_str _ ?_ fun _ => ?_ | refine stay_ptr _ ?_ fun _ _ => ?_ | refine stay_sl _ ?_ ?_ fun _ _ _ _ => ?_ | refine stay_agg _ ?_ fun _ => ?_ | refine stay_tup _ ?_ fun _ => ?_ | refine stay_cells _ ?_ fun _ _ _ _ => ?_ | refine stay_map _ ?_ fun _ => ?_ | refine stay_opt _ ?_ fun _ => ?_) | split))
theorem stay_slice (t : Nat) (x : AV) (lo hi mx : Option AV) : Stay h (sliceOp P t x lo hi mx h) := by unfold sliceOp sliceStr sliceSl sliceArr; (repeat' (first | (first | exact stay_fail | exact stay_val _ | exact stay_pan _ _ | refine stay_nat _ ?_ fun _ => ?_ | refine stay_bounds3 _ _ _ _ _ ?_ fun _ _ _ => ?_ | refine stay_part _ _ _ ?_ fun _ => ?_ | refine stay_size _ ?_ fun _ => ?_ | refine stay_cond _ ?_ ?_ | refine stay_fN _ fun _ => ?_ | refine stay_fI _ fun _ => ?_ | refine stay_bool _ ?_ fun _ => ?_ | refine stay_int _ ?_ fun _ _ => ?_ | refine stay_str _ ?_ fun _ => ?_ | refine stay_ptr _ ?_ fun _ _ => ?_ | refine stay_sl _ ?_ ?_ fun _ _ _ _ => ?_ | refine stay_agg _ ?_ fun _ => ?_ | refine stay_tup _ ?_ fun _ => ?_ | refine stay_cells _ ?_ fun _ _ _ _ => ?_ | refine stay_map _ ?_ fun _ => ?_ | refine stay_opt _ ?_ fun _ => ?_) | split))
theorem stay_extract (x : AV) (i : Nat) : Stay h (extractOp x i h) := by unfold extractOp; (repeat' (first | (first | exact stay_fail | exact stay_val _ | exact stay_pan _ _ | refine stay_nat _ ?_ fun _ => ?_ | refine stay_bounds3 _ _ _ _ _ ?_ fun _ _ _ => ?_ | refine stay_part _ _ _ ?_ fun _ => ?_ | refine stay_size _ ?_ fun _ => ?_ | refine stay_cond _ ?_ ?_ | refine stay_fN _ fun _ => ?_ | refine stay_fI _ fun _ => ?_ | refine stay_bool _ ?_ fun _ => ?_ | refine stay_int _ ?_ fun _ _ => ?_ | refine stay_str _ ?_ fun _ => ?_ | refine stay_ptr _ ?_ fun _ _ => ?_ | refine stay_sl _ ?_ ?_ fun _ _ _ _ => ?_ | refine stay_agg _ ?_ fun _ => ?_ | refine stay_tup _ ?_ fun _ => ?_ | refine stay_cells _ ?_ fun _ _ _ _ => ?_ | refine stay_map _ ?_ fun _ => ?_ | refine stay_opt _ ?_ fun _ => ?_) | split))
theorem stay_makeIfc (t : Nat) (x : AV) : Stay h (makeIfcOp P t x h) := by unfold makeIfcOp; (repeat' (first | (first | exact stay_fail | exact stay_val _ | exact stay_pan _ _ | refine stay_nat _ ?_ fun _ => ?_ | refine stay_bounds3 _ _ _ _ _ ?_ fun _ _ _ => ?_ | refine stay_part _ _ _ ?_ fun _ => ?_ | refine stay_size _ ?_ fun _ => ?_ | refine stay_cond _ ?_ ?_ | refine stay_fN _ fun _ => ?_ | refine stay_fI _ fun _ => ?_ | refine stay_bool _ ?_ fun _ => ?_ | refine stay_int _ ?_ fun _ _ => ?_ | refine stay_str _ ?_ fun _ => ?_ | refine stay_ptr _ ?_ fun _ _ => ?_ | refine stay_sl _ ?_ ?_ fun _ _ _ _ => ?_ | refine stay_agg _ ?_ fun _ => ?_ | refine stay_tup _ ?_ fun _ => ?_ | refine stay_cells _ ?_ fun _ _ _ _ => ?_ | refine stay_map _ ?_ fun _ => ?_ | refine stay_opt _ ?_ fun _ => ?_) | split))
theorem stay_nilCheck (x : AV) : Stay h (nilCheckOp x h) := by unfold nilCheckOp; (repeat' (first | (first | exact stay_fail | exact stay_val _ | exact stay_pan _ _ | refine stay_nat _ ?_ fun _ => ?_ | refine stay_bounds3 _ _ _ _ _ ?_ fun _ _ _ => ?_ | refine stay_part _ _ _ ?_ fun _ => ?_ | refine stay_size _ ?_ fun _ => ?_ | refine stay_cond _ ?_ ?_ | refine stay_fN _ fun _ => ?_ | refine stay_fI _ fun _ => ?_ | refine stay_bool _ ?_ fun _ => ?_ | refine stay_int _ ?_ fun _ _ => ?_ | refine stay_str _ ?_ fun _ => ?_ | refine stay_ptr _ ?_ fun _ _ => ?_ | refine stay_sl _ ?_ ?_ fun _ _ _ _ => ?_ | refine stay_agg _ ?_ fun _ => ?_ | refine stay_tup _ ?_ fun _ => ?_ | refine stay_cells _ ?_ fun _ _ _ _ => ?_ | refine stay_map _ ?_ fun _ => ?_ | refine stay_opt _ ?_ fun _ => ?_) | split))
theorem stay_len (t : Nat) (x : AV) : Stay h (lenOp P t x h) := by unfold lenOp; (repeat' (first | (first | exact stay_fail | exact stay_val _ | exact stay_pan _ _ | refine stay_nat _ ?_ fun _ => ?_ | refine stay_bounds3 _ _ _ _ _ ?_ fun _ _ _ => ?_ | refine stay_part _ _ _ ?_ fun _ => ?_ | refine stay_size _ ?_ fun _ => ?_ | refine stay_cond _ ?_ ?_ | refine stay_fN _ fun _ => ?_ | refine stay_fI _ fun _ => ?_ | refine stay_bool _ ?_ fun _ => ?_ | refine stay_int _ ?_ fun _ _ => ?_ | refine stay_str _ ?_ fun _ => ?_ | refine stay_ptr _ ?_ fun _ _ => ?_ | refine stay_sl _ ?_ ?_ fun _ _ _ _ => ?_ | refine stay_agg _ ?_ fun _ => ?_ | refine stay_tup _ ?_ fun _ => ?_ | refine stay_cells _ ?_ fun _ _ _ _ => ?_ | refine stay_map _ ?_ fun _ => ?_ | refine stay_opt _ ?_ fun _ => ?_) | split))
theorem stay_cap (t : Nat) (x : AV) : Stay h (capOp P t x h) := by unfold capOp; (repeat' (first | (first | exact stay_fail | exact stay_val _ | exact stay_pan _ _ | refine stay_nat _ ?_ fun _ => ?_ | refine stay_bounds3 _ _ _ _ _ ?_ fun _ _ _ => ?_ | refine stay_part _ _ _ ?_ fun _ => ?_ | refine stay_size _ ?_ fun _ => ?_ | refine stay_cond _ ?_ ?_ | refine stay_fN _ fun _ => ?_ | refine stay_fI _ fun _ => ?_ | refine stay_bool _ ?_ fun _ => ?_ | refine stay_int _ ?_ fun _ _ => ?_ | refine stay_str _ ?_ fun _ => ?_ | refine stay_ptr _ ?_ fun _ _ => ?_ | refine stay_sl _ ?_ ?_ fun _ _ _ _ => ?_ | refine stay_agg _ ?_ fun _ => ?_ | refine stay_tup _ ?_ fun _ => ?_ | refine stay_cells _ ?_ fun _ _ _ _ => ?_ | refine stay_map _ ?_ fun _ => ?_ | refine stay_opt _ ?_ fun _ => ?_) | split))
theorem stay_un (op : UnOp) (x : AV) : Stay h (unV op x h) := by unfold unV; (repeat' (first | (first | exact stay_fail | exact stay_val _ | exact stay_pan _ _ | refine stay_nat _ ?_ fun _ => ?_ | refine stay_bounds3 _ _ _ _ _ ?_ fun _ _ _ => ?_ | refine stay_part _ _ _ ?_ fun _ => ?_ | refine stay_size _ ?_ fun _ => ?_ | refine stay_cond _ ?_ ?_ | refine stay_fN _ fun _ => ?_ | refine stay_fI _ fun _ => ?_ | refine stay_bool _ ?_ fun _ => ?_ | refine stay_int _ ?_ fun _ _ => ?_ | refine stay_str _ ?_ fun _ => ?_ | refine stay_ptr _ ?_ fun _ _ => ?_ | refine stay_sl _ ?_ ?_ fun _ _ _ _ => ?_ | refine stay_agg _ ?_ fun _ => ?_ | refine stay_tup _ ?_ fun _ => ?_ | refine stay_cells _ ?_ fun _ _ _ _ => ?_ | refine stay_map _ ?_ fun _ => ?_ | refine stay_opt _ ?_ fun _ => ?_) | split))
theorem stay_convInt (s d : Nat) (x : AV) (k k' : IntKind) (h1 : P.underlying s = some (.int k)) (h2 : P.underlying d = some (.int k')) : Stay h (convOp P s d x h) := by
  unfold convOp; rw [h1, h2]; (repeat' (first | (first | exact stay_fail | exact stay_val _ | exact stay_pan _ _ | refine stay_nat _ ?_ fun _ => ?_ | refine stay_bounds3 _ _ _ _ _ ?_ fun _ _ _ => ?_ | refine stay_part _ _ _ ?_ fun _ => ?_ | refine stay_size _ ?_ fun _ => ?_ | refine stay_cond _ ?_ ?_ | refine stay_fN _ fun _ => ?_ | refine stay_fI _ fun _ => ?_ | refine stay_bool _ ?_ fun _ => ?_ | refine stay_int _ ?_ fun _ _ => ?_ | refine stay_str _ ?_ fun _ => ?_ | refine stay_ptr _ ?_ fun _ _ => ?_ | refine stay_sl _ ?_ ?_ fun _ _ _ _ => ?_ | refine stay_agg _ ?_ fun _ => ?_ | refine stay_tup _ ?_ fun _ => ?_ | refine stay_cells _ ?_ fun _ _ _ _ => ?_ | refine stay_map _ ?_ fun _ => ?_ | refine stay_opt _ ?_ fun _ => ?_) | split))

theorem stay_int2 (a b : AV) {d : OR} {f : IntKind → Int → Int → OR} (hd : Stay h d) (hf : ∀ k n m, Stay h (f k n m)) : Stay h (int2 a b d f) :=
  stay_int _ hd fun _ _ => stay_int _ hd fun _ _ => stay_cond _ (hf _ _ _) hd
theorem stay_nat2 (n m : Int) {d : OR} {f : Nat → Nat → OR} (hd : Stay h d) (hf : ∀ a b, Stay h (f a b)) : Stay h (nat2 n m d f) := by
  cases n <;> cases m <;> first | exact hd | exact hf _ _
theorem stay_bin (c : Bool) (t : Nat) (op : BinOp) (a b : AV) : Stay h (binV P c t op a b h) := by
  have har : ∀ g, Stay h (arith g a b h) := fun g => stay_int2 _ _ stay_fail fun _ _ _ => stay_val _
  have hnat : ∀ g, Stay h (natOp g a b h) := fun g => stay_int2 _ _ stay_fail fun _ _ _ => stay_nat2 _ _ stay_fail fun _ _ => stay_val _
  have heq : ∀ n, Stay h (eqOp P c t n a b h) := fun n => stay_int _ (stay_str _ (stay_opt _ stay_fail fun _ => stay_val _) fun _ => stay_str _ stay_fail fun _ => stay_val _) fun _ _ => stay_int _ stay_fail fun _ _ => stay_cond _ (stay_val _) stay_fail
  have hcmp : ∀ f g, Stay h (cmpOp f g a b h) := fun f g => stay_int _ (stay_str _ stay_fail fun _ => stay_str _ stay_fail fun _ => stay_val _) fun _ _ => stay_int _ stay_fail fun _ _ => stay_cond _ (stay_val _) stay_fail
  cases op with
  | add => exact stay_int _ (stay_str _ stay_fail fun _ => stay_str _ stay_fail fun _ => stay_cond _ (stay_val _) stay_fail) fun _ _ => stay_int _ stay_fail fun _ _ => stay_cond _ (stay_val _) stay_fail
  | sub => exact har _
  | mul => exact har _
  | quo => exact stay_int2 _ _ stay_fail fun _ _ _ => stay_nat2 _ _ stay_fail fun _ _ => stay_cond _ stay_fail (stay_val _)
  | rem => exact stay_int2 _ _ stay_fail fun _ _ _ => stay_nat2 _ _ stay_fail fun _ _ => stay_cond _ stay_fail (stay_fN _ fun _ => stay_val _)
  | and => exact hnat _
  | or => exact hnat _
  | xor => exact hnat _
  | shl => exact stay_int _ stay_fail fun _ _ => stay_int _ stay_fail fun _ _ => stay_nat2 _ _ stay_fail fun _ _ => stay_val _
  | shr => exact stay_int _ stay_fail fun _ _ => stay_int _ stay_fail fun _ _ => stay_nat2 _ _ stay_fail fun _ _ => stay_fN _ fun _ => stay_val _
  | eql => exact heq _
  | neq => exact heq _
  | lss => exact hcmp _ _
  | leq => exact hcmp _ _
  | gtr => exact hcmp _ _
  | geq => exact hcmp _ _
  | _ => exact stay_fail
theorem stay_sameKA (u : TypeDesc) (a b : AV) {d : OR} {f : Bool → OR} (hd : Stay h d) (hf : ∀ t, Stay h (f t)) : Stay h (sameKA u a b d f) := by
  unfold sameKA; split
  · exact stay_int _ hd fun _ _ => stay_int _ hd fun _ _ => stay_cond _ (hf _) hd
  · exact stay_str _ hd fun _ => stay_str _ hd fun _ => hf _
  · exact hd
theorem stay_lookA (u : TypeDesc) (k : AV) {d z : OR} {f : AV → OR} (hd : Stay h d) (hz : Stay h z) (hf : ∀ v, Stay h (f v)) : ∀ es, Stay h (lookA u k es d z f)
  | [] => hz
  | e :: es => stay_sameKA (f := fun t => cond t (f e.2) (lookA u k es d z f)) u k e.1 hd fun t => stay_cond t (hf _) (stay_lookA u k hd hz hf es)
theorem stay_lookup (t : Nat) (x i : AV) (ok : Bool) : Stay h (lookupOp P t x i ok h) := by
  unfold lookupOp mapA; split
  · refine stay_opt _ stay_fail fun u => stay_cond _ ?_ stay_fail
    unfold lookIn
    have hz : ∀ e, Stay h (zeroA P e .fail fun z => .val (cond ok (.tup [z, .bool false]) z) h) := fun e => stay_opt _ stay_fail fun _ => stay_opt _ stay_fail fun _ => stay_val _
    split
    · exact hz _
    · exact stay_map _ stay_fail fun _ => stay_lookA _ _ stay_fail (hz _) (fun _ => stay_val _) _
    · exact stay_fail
  · exact stay_fail
theorem stay_minMax (mx : Bool) (l : List AV) : Stay h (minMax mx l h) := by
  cases l with
  | nil => exact stay_fail
  | cons x t =>
    refine stay_int _ stay_fail fun k n => ?_
    induction t generalizing n with
    | nil => exact stay_val _
    | cons y t ih => exact stay_int _ stay_fail fun _ m => ih _
theorem stay_arg1 (args : List AV) {f : AV → OR} (hf : ∀ x, Stay h (f x)) : Stay h (arg1 args f) := by
  unfold arg1; split
  · exact hf _
  · exact stay_fail

/-- Does the operation read at most? -/
def readerB (P : Program) : Op → Bool
  | .move _ | .assign _ | .pick _ _ _ | .load _ _ | .nilCheck _ | .binOp _ _ _ _ _ | .unOp _ _ _ | .makeInterface _ _ | .makeFunc _ _ _ | .slice _ _ _ _ _ | .fieldAddr _ _ _ | .field _ _ _ | .indexAddr _ _ _ | .index _ _ _ | .extract _ _ | .lookup _ _ _ _ => true
  | .convert s d _ => (match P.underlying s, P.underlying d with | some (.int _), some (.int _) => true | _, _ => false)
  | .call c => (match c.callee with | .builtin .len => true | .builtin .cap => true | .builtin .min => true | .builtin .max => true | _ => false)
  | _ => false
theorem reader_stay (op : Op) (hr : readerB P op = true) (τ : Tr AV) : Stay h (opF P op τ h) := by
  cases op with
  | move x => exact stay_val _
  | assign x => exact stay_val _
  | pick c a b => exact stay_bool _ stay_fail fun _ => stay_cond _ (stay_val _) (stay_val _)
  | load t a => exact stay_load _ _
  | nilCheck x => exact stay_nilCheck _
  | binOp op t x y u => exact stay_bin _ _ _ _ _
  | unOp op t x => exact stay_un _ _
  | makeInterface t x => exact stay_makeIfc _ _
  | makeFunc f a c => exact stay_val _
  | slice t x a b c => exact stay_slice _ _ _ _ _
  | fieldAddr t x f => exact stay_fieldAddr _ _ _
  | field t x f => exact stay_field _ _ _
  | indexAddr t x i => exact stay_indexAddr _ _ _
  | index t x i => exact stay_index _ _ _
  | extract x i => exact stay_extract _ _
  | lookup t x i ok => exact stay_lookup _ _ _ _
  | convert s d x =>
    cases h1 : P.underlying s with
    | none => simp [readerB, h1] at hr
    | some u => cases h2 : P.underlying d with
      | none => simp [readerB, h1, h2] at hr
      | some v =>
        cases u <;> cases v <;> first | (simp [readerB, h1, h2] at hr; done) | skip
        exact stay_convInt _ _ _ _ _ h1 h2
  | call c =>
    obtain ⟨callee, args, ts⟩ := c
    cases callee with
    | value f => simp [readerB] at hr
    | invoke r m => simp [readerB] at hr
    | builtin b =>
      cases b with
      | len => exact stay_arg1 _ fun x => stay_opt _ stay_fail fun _ => stay_len _ _
      | cap => exact stay_arg1 _ fun x => stay_opt _ stay_fail fun _ => stay_cap _ _
      | min => exact stay_minMax _ _
      | max => exact stay_minMax _ _
      | _ => simp [readerB] at hr
  | _ => simp [readerB] at hr
end Go.Ev
namespace Go.Ev
open Go Go.RowKit
variable {α β : Type}

theorem eqL_iff : ∀ a b : List Nat, eqL a b = true → a = b
  | [], [], _ => rfl
  | [], _ :: _, h => by cases h
  | _ :: _, [], h => by cases h
  | x :: a, y :: b, h => by
    have h' : cond (Nat.beq x y) (eqL a b) false = true := h
    cases hxy : Nat.beq x y with
    | false => rw [hxy] at h'; cases h'
    | true =>
      rw [hxy] at h'
      rw [Nat.eq_of_beq_eq_true hxy, eqL_iff a b h']
theorem cond_and {a b : Bool} (h : cond a b false = true) : a = true ∧ b = true := by cases a <;> cases b <;> simp_all
theorem sameA_eq {a b : AV} (h : sameA a b = true) : a = b := by
  unfold sameA at h
  split at h
  · rw [eqB_eq] at h; rw [eq_of_beq h]
  · obtain ⟨h1, h2⟩ := cond_and h
    rw [eqI_eq] at h2
    rw [kIdx_inj (Nat.eq_of_beq_eq_true h1), eq_of_beq h2]
  · rw [eqL_iff _ _ h]
  · rfl
  · obtain ⟨h1, h2⟩ := cond_and h
    rw [Nat.eq_of_beq_eq_true h1, Nat.eq_of_beq_eq_true h2]
  · rfl
  · obtain ⟨h1, h2⟩ := cond_and h
    obtain ⟨h2, h3⟩ := cond_and h2
    obtain ⟨h3, h4⟩ := cond_and h3
    rw [Nat.eq_of_beq_eq_true h1, Nat.eq_of_beq_eq_true h2, Nat.eq_of_beq_eq_true h3]
    split at h4
    · rfl
    · rw [Nat.eq_of_beq_eq_true h4]
    · cases h4
  · rfl
  · rw [Nat.eq_of_beq_eq_true h]
  · rfl
  · rfl
  · rfl
  · cases h
theorem sameL_eq : ∀ a b : List AV, sameL a b = true → a = b
  | [], [], _ => rfl
  | [], _ :: _, h => by cases h
  | _ :: _, [], h => by cases h
  | x :: a, y :: b, h => by
    obtain ⟨h1, h2⟩ := cond_and (a := sameA x y) (b := sameL a b) h
    rw [sameA_eq h1, sameL_eq a b h2]
theorem sameV_eq {a b : AV} (h : sameV a b = true) : a = b := by
  unfold sameV at h
  split at h
  · rw [sameL_eq _ _ h]
  · rw [sameL_eq _ _ h]
  · exact sameA_eq h
theorem sameD_eq {dst : Option Tmp} {v : AV} {τ : Tr AV} (h : sameD dst v τ = true) (d : Nat) (hd : dst = some d) : τ.get .junk (toP d) = v := by
  subst hd; exact (sameV_eq h).symm

theorem nthK_some {l : List α} {n : Nat} {d : β} {k : α → β} {x : α} (hx : l[n]? = some x) : nthK l n d k = k x := by
  induction l generalizing n with
  | nil => simp at hx
  | cons y l ih =>
    cases n with
    | zero => simp at hx; subst hx; rfl
    | succ n => exact ih (by simpa using hx)
theorem nthK_none {l : List α} {n : Nat} {d : β} {k : α → β} (hx : l[n]? = none) : nthK l n d k = d := by
  rcases nthK_split l n d k with ⟨x, h1, _⟩ | h
  · rw [hx] at h1; cases h1
  · exact h

section
variable {P : Program} {B : Bd} {M : Mp} {h : AH} {w : World} {n : Nat} {X : Nat → Prop} {τ : Tr AV} {ds : List ADef} {a : Act} {ops : Array Oper}

/-- The evaluator knows that the operation is wanted, or that it is not. -/
noncomputable def wantE (ops : Array Oper) (τ : Tr AV) (o : Oper) : Option Bool := wantedA ops.toList o.guard τ none (some true) (some false)
theorem wantedA_eq (o : Oper) (d yes no : β) : wantedA ops.toList o.guard τ d yes no = match wantE ops τ o with | some true => yes | some false => no | none => d := by
  unfold wantE
  cases hg : o.guard with
  | none => rfl
  | some jw =>
    show nthK ops.toList jw.1 d _ = match nthK ops.toList jw.1 none _ with | some true => yes | some false => no | none => d
    generalize ops.toList = l
    generalize jw.1 = i
    induction l generalizing i with
    | nil => rfl
    | cons x l ih =>
      cases i with
      | succ i => exact ih i
      | zero =>
        show (Option.rec (motive := fun _ => β) d (fun t => (τ.get .junk (toP t)).elimBool d fun b => cond (wantedA.eqB b jw.2) yes no) (dstOf x)) = match (Option.rec (motive := fun _ => Option Bool) none (fun t => (τ.get .junk (toP t)).elimBool none fun b => cond (wantedA.eqB b jw.2) (some true) (some false)) (dstOf x)) with | some true => yes | some false => no | none => d
        cases dstOf x with
        | none => rfl
        | some t =>
          show (τ.get .junk (toP t)).elimBool d _ = match (τ.get .junk (toP t)).elimBool none _ with | some true => yes | some false => no | none => d
          cases τ.get .junk (toP t) with
          | bool b => 
            show cond (wantedA.eqB b jw.2) yes no = match cond (wantedA.eqB b jw.2) (some true) (some false) with | some true => yes | some false => no | none => d
            cases wantedA.eqB b jw.2 <;> rfl
          | _ => rfl
theorem want_sound (o : Oper) (A : ARel n X M τ ds a) (hX : ∀ g b, o.guard = some (g, b) → ∀ t, (ops[g]?).bind (·.dst) = some t → ¬ X t) (b : Bool) (hb : wantE ops τ o = some b) : Region.wanted o (yielded ops a.tmps) = b := by
  rcases wanted_split ops o A hX (none : Option Bool) (some true) (some false) with ⟨e1, e2⟩ | ⟨e1, e2⟩ | e2
  · rw [wantE, e2] at hb; cases hb; exact e1
  · rw [wantE, e2] at hb; cases hb; exact e1
  · rw [wantE, e2] at hb; cases hb
theorem guard_looks {o : Oper} {g : Nat} {b : Bool} (hg : o.guard = some (g, b)) {t : Nat} (ht : (ops[g]?).bind (·.dst) = some t) : t ∈ o.looksAt ops := by
  unfold Oper.looksAt
  rw [hg]
  exact List.mem_append_right _ (by simp [ht])
theorem opnd_looks {o : Oper} {t : Nat} (ht : Operand.tmp t ∈ o.op.operands) : t ∈ o.looksAt ops :=
  List.mem_append_left _ (List.mem_filterMap.2 ⟨.tmp t, by simpa using ht, rfl⟩)

/-- Wherever memory is so, the operation reads that. -/
def Rd (P : Program) (o : Oper) (τ : Tr AV) (h : AH) (v : AV) : Prop :=
  ∀ (ρ : Operand → Value) (B : Bd) (M : Mp) (w : World), (∀ x ∈ o.op.operands, ORel M τ ρ x) → HRel P B M h w → SN P B M w (execOp ρ o) (.val v h)
def Rj (P : Program) (ops : Array Oper) (τ : Tr AV) (h : AH) (j : Nat) : Prop :=
  ∃ o v, ops[j]? = some o ∧ (∀ d, o.dst = some d → τ.get .junk (toP d) = v) ∧ ((wantE ops τ o = some true ∧ Rd P o τ h v) ∨ (wantE ops τ o = some false ∧ v = .tup []))

theorem readV_split (o : Oper) (hr : readerB P o.op = true) (d : β) (k : AV → β) :
    (∃ v, ((wantE ops τ o = some true ∧ Rd P o τ h v) ∨ (wantE ops τ o = some false ∧ v = .tup [])) ∧ readV P ops.toList o τ h d k = k v) ∨ readV P ops.toList o τ h d k = d := by
  have e : readV P ops.toList o τ h d k = wantedA ops.toList o.guard τ d (valK (opF P o.op τ h) d k) (k (.tup [])) := rfl
  rw [e, wantedA_eq]
  cases hw : wantE ops τ o with
  | none => right; rfl
  | some b =>
    cases b with
    | false => left; exact ⟨.tup [], .inr ⟨rfl, rfl⟩, rfl⟩
    | true =>
      cases hop : opF P o.op τ h with
      | val v h' =>
        have := reader_stay o.op hr τ v h' hop
        subst this
        left
        refine ⟨v, .inl ⟨rfl, fun ρ B M w hρ H => ?_⟩, rfl⟩
        have hs := opF_sound (w := w) o hρ H
        rw [hop] at hs
        exact hs
      | _ => right; rfl

/-- No operation writes what another one looks at, or writes, but in order. -/
def hazB (P : Program) (ops : Array Oper) : Bool :=
  (List.range ops.size).all fun i => (List.range ops.size).all fun j =>
    match ops[i]?, ops[j]? with
    | some oi, some oj => (match oi.dst with
      | some d => if i == j then !readerB P oj.op || !(oj.looksAt ops).contains d else oj.dst != some d && (!(oj.looksAt ops).contains d || (oj.after.any fun e => Region.binds .any e && e.on == i) || (oi.after.any fun e => Region.binds .any e && e.on == j))
      | none => true)
    | _, _ => true
theorem haz_self (hz : hazB P ops = true) {j : Nat} {oj : Oper} (hj : ops[j]? = some oj) (hr : readerB P oj.op = true) {d : Nat} (hd : oj.dst = some d) : d ∉ oj.looksAt ops := by
  simp only [hazB, List.all_eq_true, List.mem_range] at hz
  have hlt := (Array.getElem?_eq_some_iff.1 hj).1
  have := hz j hlt j hlt
  simp only [hj, hd, beq_self_eq_true, if_true, hr, Bool.not_true, Bool.false_or, Bool.not_eq_true'] at this
  simpa using this
theorem haz_other (hz : hazB P ops = true) {i j : Nat} {oi oj : Oper} (hi : ops[i]? = some oi) (hj : ops[j]? = some oj) (hij : i ≠ j) {d : Nat} (hd : oi.dst = some d) :
    oj.dst ≠ some d ∧ (d ∈ oj.looksAt ops → (∃ e ∈ oj.after, Region.binds .any e = true ∧ e.on = i) ∨ ∃ e ∈ oi.after, Region.binds .any e = true ∧ e.on = j) := by
  simp only [hazB, List.all_eq_true, List.mem_range] at hz
  have := hz i (Array.getElem?_eq_some_iff.1 hi).1 j (Array.getElem?_eq_some_iff.1 hj).1
  simp only [hi, hj, hd, beq_iff_eq, hij, if_false, Bool.and_eq_true, bne_iff_ne, Bool.or_eq_true, Bool.not_eq_true'] at this
  refine ⟨this.1, fun hm => ?_⟩
  have any : ∀ {l : Array Edge} {k : Nat}, (l.any fun e => Region.binds .any e && e.on == k) = true → ∃ e ∈ l, Region.binds .any e = true ∧ e.on = k := by
    intro l k h1
    obtain ⟨e, he, hb⟩ := Array.any_eq_true'.1 h1
    simp only [Bool.and_eq_true, beq_iff_eq] at hb
    exact ⟨e, he, hb.1, hb.2⟩
  rcases this.2 with (h1 | h1) | h1
  · have : (oj.looksAt ops).contains d = true := by simpa using hm
    rw [this] at h1; cases h1
  · exact .inl (any h1)
  · exact .inr (any h1)

/-- What is written elsewhere changes nothing. -/
theorem evO_put {x : Operand} {dst : Option Tmp} {v : AV} (hx : ∀ d, dst = some d → x ≠ .tmp d) : evO x (putT dst v τ) = evO x τ := by
  cases dst with
  | none => rfl
  | some d =>
    cases x with
    | tmp t => exact Tr.get_set_other _ _ _ _ _ (toP_ne (fun e => hx d rfl (e ▸ rfl)))
    | _ => rfl
theorem get_put {dst : Option Tmp} {v : AV} {t : Nat} (hx : dst ≠ some t) : (putT dst v τ).get .junk (toP t) = τ.get .junk (toP t) := by
  cases dst with
  | none => rfl
  | some d => exact Tr.get_set_other _ _ _ _ _ (toP_ne (fun e => hx (e ▸ rfl)))
theorem get_put_self {v : AV} {t : Nat} : (putT (some t) v τ).get .junk (toP t) = v := Tr.get_set_self _ _ _ _
theorem wantE_put {o : Oper} {dst : Option Tmp} {v : AV} (hx : ∀ d, dst = some d → d ∉ o.looksAt ops) : wantE ops (putT dst v τ) o = wantE ops τ o := by
  unfold wantE
  cases hg : o.guard with
  | none => rfl
  | some jw =>
    obtain ⟨j, b⟩ := jw
    show nthK ops.toList j none _ = nthK ops.toList j none _
    cases hq : ops.toList[j]? with
    | none => rw [nthK_none hq, nthK_none hq]
    | some oj =>
      rw [nthK_some hq, nthK_some hq, dstOf_eq]
      cases hd : oj.dst with
      | none => rfl
      | some t =>
        have hj : ops[j]? = some oj := by simpa using hq
        have hl : t ∈ o.looksAt ops := guard_looks hg (by simp [hj, hd])
        show ((putT dst v τ).get .junk (toP t)).elimBool none _ = (τ.get .junk (toP t)).elimBool none _
        rw [get_put fun e => hx t e hl]
end
end Go.Ev
namespace Go.Ev
open Go Go.RowKit
section
variable {P : Program} {B : Bd} {M : Mp} {h : AH} {w : World} {n : Nat} {τ : Tr AV} {ds : List ADef} {a : Act} {ops : Array Oper}

theorem Rj.put {j i : Nat} {oi : Oper} {v : AV} (R : Rj P ops τ h j) (hz : hazB P ops = true) (hi : ops[i]? = some oi) (hij : i ≠ j) (hno : ∀ oj, ops[j]? = some oj → ∀ d, oi.dst = some d → d ∉ oj.looksAt ops) : Rj P ops (putT oi.dst v τ) h j := by
  obtain ⟨o, u, ho, hd, hw⟩ := R
  have hx : ∀ d, oi.dst = some d → d ∉ o.looksAt ops := hno o ho
  refine ⟨o, u, ho, fun d hd' => ?_, ?_⟩
  · rw [get_put fun e => (haz_other hz hi ho hij e).1 hd']; exact hd d hd'
  · rw [wantE_put hx]
    refine hw.imp (fun ⟨h1, h2⟩ => ⟨h1, fun ρ B M w hρ H => h2 ρ B M w (fun x hm => ?_) H⟩) id
    have := hρ x hm
    unfold ORel at this ⊢
    rwa [evO_put fun d hd e => hx d hd (opnd_looks (e ▸ hm))] at this

/-- Where the temporaries that are not yet written lie. -/
def dstIn (ops : Array Oper) (X : List Nat) : Nat → Prop := fun t => ∃ j ∈ X, (ops[j]?).bind (·.dst) = some t
abbrev isL (l : Array Bool) (i : Nat) : Prop := l.getD i false = true

/-- The region on its way: listedE, τ, h: the evaluator's; listed: what has come up; X: those that the evaluator has taken, and that have not come up (the latest first); rs: those that are looked at again. -/
structure Way (P : Program) (ops : Array Oper) (lE l : Array Bool) (X rs : List Nat) (τ : Tr AV) (h : AH) : Prop where
  sz : l.size = ops.size
  szE : lE.size = ops.size
  both : ∀ i, isL l i ↔ isL lE i ∧ i ∉ X
  sub : ∀ j ∈ X, j ∈ rs
  rsl : ∀ j ∈ rs, isL lE j
  pre : ∀ j ∈ rs, ∀ o, ops[j]? = some o → ∀ e ∈ o.after, Region.binds .any e = true → isL lE e.on ∧ e.on ≠ j
  pw : X.Pairwise fun j k => ∀ o, ops[k]? = some o → ∀ e ∈ o.after, Region.binds .any e = true → e.on ≠ j
  rd : ∀ j ∈ rs, Rj P ops τ h j
  rdr : ∀ j ∈ rs, ∀ o, ops[j]? = some o → readerB P o.op = true
  war : ∀ i ∈ rs, ∀ j ∈ rs, i ≠ j → ∀ oi oj, ops[i]? = some oi → ops[j]? = some oj → ∀ d, oi.dst = some d → d ∈ oj.looksAt ops → ∃ e ∈ oj.after, Region.binds .any e = true ∧ e.on = i

theorem ready_lt {l : Array Bool} {j : Nat} (hj : j ∈ Region.ready .any ops l) : ¬ isL l j ∧ ∃ o, ops[j]? = some o ∧ ∀ e ∈ o.after, Region.binds .any e = true → isL l e.on := by
  obtain ⟨h0, o, ho, ha⟩ := mem_ready.1 hj
  refine ⟨fun h1 => ?_, o, ho, ha⟩
  have h1' : l.getD j false = true := h1
  rcases Nat.lt_or_ge j l.size with h2 | h2
  · simp [h2] at h0 h1'; rw [h0] at h1'; cases h1'
  · simp [Array.getElem?_eq_none h2] at h0
theorem ready_of {l : Array Bool} (hs : l.size = ops.size) {j : Nat} {o : Oper} (ho : ops[j]? = some o) (h0 : ¬ isL l j) (ha : ∀ e ∈ o.after, Region.binds .any e = true → isL l e.on) : j ∈ Region.ready .any ops l := by
  refine mem_ready.2 ⟨?_, o, ho, ha⟩
  have hlt : j < l.size := by rw [hs]; exact (Array.getElem?_eq_some_iff.1 ho).1
  have h0' : ¬ l.getD j false = true := h0
  simp [hlt] at h0' ⊢
  exact h0'
theorem isL_set {l : Array Bool} {i j : Nat} (hi : i < l.size) : isL (l.setIfInBounds i true) j ↔ isL l j ∨ j = i := by
  show (l.setIfInBounds i true).getD j false = true ↔ l.getD j false = true ∨ j = i
  by_cases e : i = j
  · subst e; simp [hi]
  · rw [getD_set_ne false e]; exact ⟨.inl, fun h => h.resolve_right fun e' => e e'.symm⟩

namespace Way
variable {lE l : Array Bool} {X rs : List Nat}

theorem ready_cases (W : Way P ops lE l X rs τ h) {j : Nat} (hj : j ∈ Region.ready .any ops l) : j ∈ X ∨ (j ∉ X ∧ j ∈ Region.ready .any ops lE) := by
  by_cases hx : j ∈ X
  · exact .inl hx
  · obtain ⟨h0, o, ho, ha⟩ := ready_lt hj
    exact .inr ⟨hx, ready_of W.szE ho (fun h1 => h0 ((W.both j).2 ⟨h1, hx⟩)) fun e he hb => ((W.both _).1 (ha e he hb)).1⟩
theorem empty (W : Way P ops lE l X rs τ h) (hr : Region.ready .any ops l = []) : X = [] := by
  rcases Classical.em (X = []) with hX | hX
  · exact hX
  · exfalso
    have hz := X.getLast_mem hX
    have hsplit := X.dropLast_concat_getLast hX
    generalize X.getLast hX = z at hz hsplit
    have hzr := W.sub z hz
    obtain ⟨o, v, ho, _⟩ := W.rd z hzr
    have hpw := W.pw
    rw [← hsplit, List.pairwise_append] at hpw
    have : z ∈ Region.ready .any ops l := by
      refine ready_of W.sz ho (fun h1 => ((W.both z).1 h1).2 hz) fun e he hb => ?_
      obtain ⟨h1, h2⟩ := W.pre z hzr o ho e he hb
      refine (W.both _).2 ⟨h1, fun hm => ?_⟩
      rw [← hsplit, List.mem_append] at hm
      rcases hm with hm | hm
      · exact hpw.2.2 _ hm z (by simp) o ho e he hb rfl
      · exact h2 (by simpa using hm)
    rw [hr] at this; cases this
/-- The evaluator takes one that reads. -/
theorem take (W : Way P ops lE l X rs τ h) (hz : hazB P ops = true) {i : Nat} {oi : Oper} (hi : ops[i]? = some oi) (hr : i ∈ Region.ready .any ops lE) (hrd : readerB P oi.op = true) (hwar : ∀ j ∈ rs, ∀ oj, ops[j]? = some oj → ∀ d, oi.dst = some d → d ∉ oj.looksAt ops) {v : AV}
    (hv : (wantE ops τ oi = some true ∧ Rd P oi τ h v) ∨ (wantE ops τ oi = some false ∧ v = .tup [])) : Way P ops (lE.setIfInBounds i true) l (i :: X) (i :: rs) (putT oi.dst v τ) h := by
  obtain ⟨h0, o', ho', ha⟩ := ready_lt hr
  rw [hi] at ho'; cases ho'
  have hlt : i < lE.size := by rw [W.szE]; exact (Array.getElem?_eq_some_iff.1 hi).1
  have hir : ∀ j ∈ rs, j ≠ i := fun j hj e => h0 (e ▸ W.rsl j hj)
  have hni : ∀ j ∈ rs, ∀ oj, ops[j]? = some oj → ∀ e ∈ oj.after, Region.binds .any e = true → e.on ≠ i := fun j hj oj hoj e he hb e' => h0 (e' ▸ (W.pre j hj oj hoj e he hb).1)
  refine ⟨W.sz, by rw [Array.size_setIfInBounds]; exact W.szE, fun j => ?_, fun j hj => ?_, fun j hj => ?_, fun j hj o ho e he hb => ?_, ?_, fun j hj => ?_, fun j hj o ho => ?_, fun x hx y hy hxy ox oy hox hoy d hd hm => ?_⟩
  · rw [isL_set hlt, W.both j]
    constructor
    · rintro ⟨h1, h2⟩
      exact ⟨.inl h1, fun hm => by rcases List.mem_cons.1 hm with e | hm; exact h0 (e ▸ h1); exact h2 hm⟩
    · rintro ⟨h1, h2⟩
      rw [List.mem_cons, not_or] at h2
      exact ⟨h1.resolve_right h2.1, h2.2⟩
  · rcases List.mem_cons.1 hj with rfl | hj
    · exact List.mem_cons_self
    · exact List.mem_cons_of_mem _ (W.sub j hj)
  · rw [isL_set hlt]
    rcases List.mem_cons.1 hj with rfl | hj
    · exact .inr rfl
    · exact .inl (W.rsl j hj)
  · rw [isL_set hlt]
    rcases List.mem_cons.1 hj with rfl | hj
    · rw [hi] at ho; cases ho
      exact ⟨.inl (ha e he hb), fun e' => h0 (e' ▸ ha e he hb)⟩
    · obtain ⟨h1, h2⟩ := W.pre j hj o ho e he hb
      exact ⟨.inl h1, h2⟩
  · refine List.pairwise_cons.2 ⟨fun k hk o ho e he hb e' => ?_, W.pw⟩
    exact h0 (e' ▸ (W.pre k (W.sub k hk) o ho e he hb).1)
  · rcases List.mem_cons.1 hj with rfl | hj
    · refine ⟨oi, v, hi, fun d hd => by rw [hd]; exact get_put_self, ?_⟩
      have hx : ∀ d, oi.dst = some d → d ∉ oi.looksAt ops := fun d hd => haz_self hz hi hrd hd
      rw [wantE_put hx]
      refine hv.imp (fun ⟨h1, h2⟩ => ⟨h1, fun ρ B M w hρ H => h2 ρ B M w (fun x hm => ?_) H⟩) id
      have := hρ x hm
      unfold ORel at this ⊢
      rwa [evO_put fun d hd e => hx d hd (opnd_looks (e ▸ hm))] at this
    · exact (W.rd j hj).put hz hi (hir j hj).symm (hwar j hj)
  · rcases List.mem_cons.1 hj with rfl | hj
    · rw [hi] at ho; cases ho; exact hrd
    · exact W.rdr j hj o ho
  · rcases List.mem_cons.1 hx with rfl | hx
    · rcases List.mem_cons.1 hy with rfl | hy
      · exact absurd rfl hxy
      · rw [hi] at hox; cases hox
        exact absurd hm (hwar y hy oy hoy d hd)
    · rcases List.mem_cons.1 hy with rfl | hy
      · have hx' : x ∈ rs := (List.mem_cons.1 hx).resolve_left hxy
        rcases (haz_other hz hox hoy hxy hd).2 hm with h1 | ⟨e, he, hb, hon⟩
        · exact h1
        · exact absurd hon (hni x hx' ox hox e he hb)
      · exact W.war x hx y hy hxy ox oy hox hoy d hd hm
/-- One that reads comes up. -/
theorem comes (W : Way P ops lE l X rs τ h) {j : Nat} (hj : j ∈ X) : Way P ops lE (l.setIfInBounds j true) (X.filter (· != j)) rs τ h := by
  obtain ⟨o, v, ho, _⟩ := W.rd j (W.sub j hj)
  have hlt : j < l.size := by rw [W.sz]; exact (Array.getElem?_eq_some_iff.1 ho).1
  refine ⟨by rw [Array.size_setIfInBounds]; exact W.sz, W.szE, fun i => ?_, fun i hi => W.sub i ((List.mem_filter.1 hi).1), W.rsl, W.pre, W.pw.filter _, W.rd, W.rdr, W.war⟩
  rw [isL_set hlt, W.both i]
  simp only [List.mem_filter, bne_iff_ne, ne_eq, not_and, Classical.not_not]
  constructor
  · rintro (⟨h1, h2⟩ | rfl)
    · exact ⟨h1, fun h3 => absurd h3 h2⟩
    · exact ⟨W.rsl i (W.sub i hj), fun _ => rfl⟩
  · rintro ⟨h1, h2⟩
    by_cases h3 : i ∈ X
    · exact .inr (h2 h3)
    · exact .inl ⟨h1, h3⟩
/-- One that acts comes up. -/
theorem acts (W : Way P ops lE l X rs τ h) {i : Nat} {oi : Oper} (hi : ops[i]? = some oi) (hr : i ∈ Region.ready .any ops l) (hrE : i ∈ Region.ready .any ops lE) {rs' : List Nat} (hrs : ∀ j ∈ rs', j ∈ rs) (hX : ∀ j ∈ X, j ∈ rs') {τ' : Tr AV} {h' : AH}
    (hR : ∀ j ∈ rs', Rj P ops τ' h' j) : Way P ops (lE.setIfInBounds i true) (l.setIfInBounds i true) X rs' τ' h' := by
  obtain ⟨h0, _⟩ := ready_lt hrE
  have hlt : i < lE.size := by rw [W.szE]; exact (Array.getElem?_eq_some_iff.1 hi).1
  have hlt' : i < l.size := by rw [W.sz]; exact (Array.getElem?_eq_some_iff.1 hi).1
  refine ⟨by rw [Array.size_setIfInBounds]; exact W.sz, by rw [Array.size_setIfInBounds]; exact W.szE, fun j => ?_, hX, fun j hj => ?_, fun j hj o ho e he hb => ?_, W.pw, hR, fun j hj => W.rdr j (hrs j hj), fun x hx y hy => W.war x (hrs x hx) y (hrs y hy)⟩
  · rw [isL_set hlt, isL_set hlt', W.both j]
    constructor
    · rintro (⟨h1, h2⟩ | rfl)
      · exact ⟨.inl h1, h2⟩
      · exact ⟨.inr rfl, fun hx => h0 (W.rsl j (W.sub j hx))⟩
    · rintro ⟨h1 | h1, h2⟩
      · exact .inl ⟨h1, h2⟩
      · exact .inr h1
  · rw [isL_set hlt]; exact .inl (W.rsl j (hrs j hj))
  · rw [isL_set hlt]
    obtain ⟨h1, h2⟩ := W.pre j (hrs j hj) o ho e he hb
    exact ⟨.inl h1, h2⟩
/-- What one that may come up looks at is there. -/
theorem looks (W : Way P ops lE l X rs τ h) (hz : hazB P ops = true) {j : Nat} {o : Oper} (hj : ops[j]? = some o) (hr : j ∈ Region.ready .any ops l) {t : Nat} (ht : t ∈ o.looksAt ops) : ¬ dstIn ops X t := by
  rintro ⟨i, hi, hd⟩
  obtain ⟨h0, o', ho', ha⟩ := ready_lt hr
  rw [hj] at ho'; cases ho'
  cases hoi : ops[i]? with
  | none => rw [hoi] at hd; cases hd
  | some oi =>
    rw [hoi] at hd
    have hd' : oi.dst = some t := hd
    by_cases e : i = j
    · subst e
      rw [hj] at hoi; cases hoi
      exact haz_self hz hj (W.rdr i (W.sub i hi) o hj) hd' ht
    · have no : ¬ ∃ ed ∈ o.after, Region.binds .any ed = true ∧ ed.on = i := fun ⟨ed, he, hb, hon⟩ => ((W.both _).1 (ha ed he hb)).2 (hon ▸ hi)
      rcases (haz_other hz hoi hj e hd').2 ht with h1 | ⟨ed, he, hb, hon⟩
      · exact no h1
      · have hjl : isL lE j := hon ▸ (W.pre i (W.sub i hi) oi hoi ed he hb).1
        by_cases hjX : j ∈ X
        · exact no (W.war i (W.sub i hi) j (W.sub j hjX) e oi o hoi hj t hd' ht)
        · exact h0 ((W.both j).2 ⟨hjl, hjX⟩)
end Way

/-- Those that have not come up. -/
def left (ops : Array Oper) (l : Array Bool) : Nat := ((List.range ops.size).filter fun i => !l.getD i false).length
theorem filter_lt {p q : Nat → Bool} : ∀ (l : List Nat) (i : Nat), (∀ x, q x = true → p x = true) → i ∈ l → p i = true → q i = false → (l.filter q).length < (l.filter p).length
  | [], _, _, hm, _, _ => by cases hm
  | x :: l, i, hq, hm, hp, hn => by
    have hle : (l.filter q).length ≤ (l.filter p).length := by
      clear hm
      induction l with
      | nil => simp
      | cons y l ih =>
        by_cases h1 : q y = true
        · simp [h1, hq y h1]; exact ih
        · by_cases h2 : p y = true
          · simp [h1, h2]; omega
          · simp [h1, h2]; exact ih
    rcases List.mem_cons.1 hm with e | hm
    · subst e
      simp [hp, hn]; omega
    · have := filter_lt l i hq hm hp hn
      by_cases h1 : q x = true
      · simp [h1, hq x h1]; exact this
      · by_cases h2 : p x = true
        · simp [h1, h2]; omega
        · simp [h1, h2]; exact this
theorem left_set {l : Array Bool} (hs : l.size = ops.size) {j : Nat} (hj : j ∈ Region.ready .any ops l) {fuel : Nat} (hf : left ops l ≤ fuel + 1) : left ops (l.setIfInBounds j true) ≤ fuel := by
  obtain ⟨h0, o, ho, _⟩ := ready_lt hj
  have hlt : j < ops.size := (Array.getElem?_eq_some_iff.1 ho).1
  have := filter_lt (p := fun i => !l.getD i false) (q := fun i => !(l.setIfInBounds j true).getD i false) (List.range ops.size) j
    (fun x hx => by
      simp only [Bool.not_eq_true'] at hx ⊢
      by_cases e : j = x
      · subst e
        have : isL (l.setIfInBounds j true) j := (isL_set (by omega)).2 (.inr rfl)
        have this' : (l.setIfInBounds j true).getD j false = true := this
        rw [this'] at hx; cases hx
      · rwa [getD_set_ne false e] at hx)
    (List.mem_range.2 hlt) (by show (!l.getD j false) = true; rw [Bool.eq_false_iff.2 h0]; rfl) (by
      have : isL (l.setIfInBounds j true) j := (isL_set (by omega)).2 (.inr rfl)
      have this' : (l.setIfInBounds j true).getD j false = true := this
      rw [this']; rfl)
  unfold left at *
  omega
theorem left_zero {l : Array Bool} (hf : left ops l ≤ 0) : Region.ready .any ops l = [] := by
  rw [List.eq_nil_iff_forall_not_mem]
  intro j hj
  obtain ⟨h0, o, ho, _⟩ := ready_lt hj
  have hlt : j < ops.size := (Array.getElem?_eq_some_iff.1 ho).1
  have : (List.range ops.size).filter (fun i => !l.getD i false) = [] := List.eq_nil_of_length_eq_zero (by unfold left at hf; omega)
  have hm : j ∈ (List.range ops.size).filter (fun i => !l.getD i false) := List.mem_filter.2 ⟨List.mem_range.2 hlt, by rw [Bool.eq_false_iff.2 h0]; rfl⟩
  rw [this] at hm; cases hm
end
end Go.Ev
