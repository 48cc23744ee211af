/- The evaluator is sound; contracts out of it; answers of the library over lists of numbers. -/
import Derived.Test.YtgfdfmgocijdgaaGreatDoorEv7
import Derived.Scope
import Derived.Lib.Bytealg
import Derived.Lib.IndexMore
import Derived.Lib.Repeat
namespace Go.Ev
open Go Go.RowKit
section
variable {P : Program} {B : Bd} {M : Mp} {h : AH} {w : World} {n : Nat} {τ : Tr AV} {ds : List ADef} {a : Act} {ops : Array Oper}

/-- The steps are those of the region, as far as the evaluator needs it. -/
def planB (P : Program) (ops : Array Oper) : List PSt → Array Bool → List Nat → Bool
  | [], l, _ => (Region.ready .any ops l).isEmpty
  | .rd i :: t, l, rs => (match ops[i]? with | some o => readerB P o.op && rs.all (fun j => match ops[j]?, o.dst with | some oj, some d => !(oj.looksAt ops).contains d | _, _ => true) | none => false) && (Region.ready .any ops l).contains i && planB P ops t (l.setIfInBounds i true) (i :: rs)
  | .eff i chk :: t, l, rs => (Region.ready .any ops l == [i]) && (match ops[i]? with
    | some o => (rs.filter fun j => !(o.after.any fun e => Region.binds .any e && e.on == j)).all (chk.contains ·) && planB P ops t (l.setIfInBounds i true) (rs.filter fun j => !(o.after.any fun e => Region.binds .any e && e.on == j))
    | none => false)

theorem ARel.fill {X X' : Nat → Prop} (A : ARel n X M τ ds a) {M' : Mp} (hM : M.le M') {v' : Value} {dst : Option Tmp} (hv : ∀ d, dst = some d → VRel M' (τ.get .junk (toP d)) v') (hd : ∀ d, dst = some d → d < n) (hX : ∀ t, X t → X' t ∨ dst = some t) :
    ARel n X' M' τ ds (a.put dst v') := by
  cases dst with
  | none => exact ⟨A.sz, fun t ht => (A.tmp t fun hx => (hX t hx).elim ht (fun e => by cases e)).mono hM, A.dfr.mono hM⟩
  | some d =>
    have hd := hd d rfl
    refine ⟨by show n ≤ (a.tmps.setIfInBounds d v').size; rw [Array.size_setIfInBounds]; exact A.sz, fun t ht => ?_, A.dfr.mono hM⟩
    show VRel M' (τ.get .junk (toP t)) ((a.tmps.setIfInBounds d v').getD t undef)
    by_cases e : t = d
    · subst e
      rw [Array.getD_eq_getD_getElem?, Array.getElem?_setIfInBounds_self_of_lt (Nat.lt_of_lt_of_le hd A.sz)]
      exact hv t rfl
    · rw [Array.getD_eq_getD_getElem?, Array.getElem?_setIfInBounds_ne (Ne.symm e), ← Array.getD_eq_getD_getElem?]
      exact (A.tmp t fun hx => (hX t hx).elim ht (fun e' => e (Option.some.inj e').symm)).mono hM
theorem ARel.ahead {X X' : Nat → Prop} (A : ARel n X M τ ds a) {v : AV} {dst : Option Tmp} (hX : ∀ t, X t ∨ dst = some t → X' t) : ARel n X' M (putT dst v τ) ds a := by
  refine ⟨A.sz, fun t ht => ?_, A.dfr⟩
  rw [get_put fun e => ht (hX t (.inr e))]
  exact A.tmp t fun hx => ht (hX t (.inl hx))
theorem ARel.to {X X' : Nat → Prop} (A : ARel n X M τ ds a) (hX : ∀ t, X t → X' t) : ARel n X' M τ ds a := ⟨A.sz, fun t ht => A.tmp t fun hx => ht (hX t hx), A.dfr⟩

variable {lE l : Array Bool} {X rs : List Nat}
theorem pend (W : Way P ops lE l X rs τ h) (hz : hazB P ops = true) (hok : ops.all (opOkB P.globals.size n) = true) {j : Nat} (hj : j ∈ X) (hr : j ∈ Region.ready .any ops l) (A : ARel n (dstIn ops X) M τ ds a) (H : HRel P B M h w) {Q : Exit → Act → World → Prop} {K : Act → World → Prop}
    (hK : ∀ M' a' w', M.le M' → ARel n (dstIn ops (X.filter (· != j))) M' τ ds a' → HRel P B M' h w' → Below B.n w w' → K a' w') : wpOp P ops Q j K a w := by
  obtain ⟨o, v, ho, hd, hv⟩ := W.rd j (W.sub j hj)
  have hoo : opOkB P.globals.size n o = true := Array.all_eq_true_iff_forall_mem.1 hok o (Array.mem_of_getElem? ho)
  have hl := fun t ht => W.looks hz ho hr (t := t) ht
  unfold wpOp
  rw [ho]
  simp only
  have hX : ∀ t, dstIn ops X t → dstIn ops (X.filter (· != j)) t ∨ o.dst = some t := by
    rintro t ⟨i, hi, hdi⟩
    by_cases e : i = j
    · subst e; rw [ho] at hdi; exact .inr hdi
    · exact .inl ⟨i, List.mem_filter.2 ⟨hi, by simp [e]⟩, hdi⟩
  rcases hv with ⟨h1, h2⟩ | ⟨h1, h2⟩
  · rw [want_sound o A (fun g b hg t ht => hl t (guard_looks hg ht)) true h1, if_pos rfl]
    left
    obtain ⟨M', v', w', k1, k2, k3, k4, k5⟩ := h2 a.eval B M w (opnds_rel H A (fun t ht => hl t (opnd_looks ht)) hoo) H
    unfold Oper.wp
    rw [k1]
    exact hK M' _ w' k2 (A.fill k2 (fun d hd' => by rw [hd d hd']; exact k3) (opOk_dst hoo) hX) k4 k5
  · rw [want_sound o A (fun g b hg t ht => hl t (guard_looks hg ht)) false h1, if_neg (by simp)]
    subst h2
    exact hK M _ w (Mp.le.refl M) (A.fill (Mp.le.refl M) (fun d hd' => by rw [hd d hd']; exact .tup .nil) (opOk_dst hoo) hX) H (Below.refl B.n w)

theorem recheck_sound {chk : List Nat} (hc : recheck P ops.toList chk τ h = true) (j : Nat) (hj : j ∈ chk) (hr : ∀ o, ops[j]? = some o → readerB P o.op = true) : Rj P ops τ h j := by
  have hall : ∀ (l : List Nat) (f : Nat → Bool), allL f l = true → ∀ x ∈ l, f x = true := by
    intro l f
    induction l with
    | nil => intro _ x hx; cases hx
    | cons y l ih =>
      intro ha x hx
      obtain ⟨h1, h2⟩ := cond_and (a := f y) (b := allL f l) ha
      rcases List.mem_cons.1 hx with rfl | hx
      · exact h1
      · exact ih h2 x hx
  have := hall _ _ hc j hj
  cases hq : ops.toList[j]? with
  | none => rw [nthK_none hq] at this; cases this
  | some o =>
    rw [nthK_some hq] at this
    have ho : ops[j]? = some o := by simpa using hq
    rcases readV_split (ops := ops) (τ := τ) (h := h) o (hr o ho) false (fun v => sameD (dstOf o) v τ) with ⟨v, hv, e⟩ | e
    · rw [e] at this
      exact ⟨o, v, ho, fun d hd => sameD_eq this d hd, hv⟩
    · rw [e] at this; cases this

theorem plan_sound {I : Bd → World → Prop} (hI : IClosed I) {call : CallF} (hcall : CallOk P I call) (hok : ops.all (opOkB P.globals.size n) = true) (hz : hazB P ops = true) {r : XR} (hr : r ≠ .fail) {w₀ : World} (hI₀ : I B w₀) {M₀ : Mp} :
    ∀ (ps : List PSt) (lE : Array Bool) (rs : List Nat) (τ : Tr AV) (ds : List ADef) (h : AH), planB P ops ps lE rs = true → (∀ j ∈ rs, ∀ o, ops[j]? = some o → readerB P o.op = true) → runPlan P call ops.toList ps τ ds h = r →
      ∀ (fuel : Nat) (l : Array Bool) (X : List Nat) (M : Mp) (a : Act) (w : World), Way P ops lE l X rs τ h → left ops l ≤ fuel → M₀.le M → ARel n (dstIn ops X) M τ ds a → HRel P B M h w → Below B.n w₀ w →
        wpAny P .any ops (XQ P n B M₀ w₀ r) fuel l a w := by
  intro ps
  induction ps with
  | nil =>
    intro lE rs τ ds h hp hrs he
    have hnil : Region.ready .any ops lE = [] := by simpa [planB] using hp
    have he' : r = .norm τ ds h := he.symm
    subst he'
    have fin : ∀ (l : Array Bool) (X : List Nat) (M : Mp) (a : Act) (w : World), Way P ops lE l X rs τ h → M₀.le M → ARel n (dstIn ops X) M τ ds a → HRel P B M h w → Below B.n w₀ w → Region.ready .any ops l = [] → XQ P n B M₀ w₀ (.norm τ ds h) .normal a w := by
      intro l X M a w W hM A H hw hl
      have hX := W.empty hl
      subst hX
      exact ⟨rfl, M, hM, A.to (fun t ⟨i, hi, _⟩ => by cases hi), H, hw⟩
    intro fuel
    induction fuel with
    | zero =>
      intro l X M a w W hf hM A H hw
      have hl := left_zero hf
      exact ⟨hl, fin l X M a w W hM A H hw hl⟩
    | succ fuel ih =>
      intro l X M a w W hf hM A H hw
      refine ⟨fin l X M a w W hM A H hw, fun j hj => ?_⟩
      rcases W.ready_cases hj with hx | ⟨_, hx⟩
      · exact pend W hz hok hx hj A H fun M' a' w' k1 k2 k3 k4 => ih _ _ M' a' w' (W.comes hx) (left_set W.sz hj hf) (hM.trans k1) k2 k3 (hw.trans k4)
      · rw [hnil] at hx; cases hx
  | cons s ps ihp =>
    intro lE rs τ ds h hp hrs he
    cases s with
    | rd i =>
      simp only [planB, Bool.and_eq_true] at hp
      obtain ⟨⟨h1, h2⟩, h3⟩ := hp
      cases hi : ops[i]? with
      | none => rw [hi] at h1; cases h1
      | some o =>
        rw [hi] at h1
        simp only [Bool.and_eq_true] at h1
        obtain ⟨h1, h1w⟩ := h1
        have hwar : ∀ j ∈ rs, ∀ oj, ops[j]? = some oj → ∀ d, o.dst = some d → d ∉ oj.looksAt ops := by
          intro j hj oj hoj d hd hm
          have := List.all_eq_true.1 h1w j hj
          rw [hoj, hd] at this
          have hc : (oj.looksAt ops).contains d = true := by simpa using hm
          simp only [hc] at this; cases this
        have hrd : i ∈ Region.ready .any ops lE := by simpa using h2
        have hq : ops.toList[i]? = some o := by simpa using hi
        have he' : nthK ops.toList i .fail (fun o => readV P ops.toList o τ h .fail fun v => runPlan P call ops.toList ps (putT (dstOf o) v τ) ds h) = r := he
        rw [nthK_some hq] at he'
        rcases readV_split (ops := ops) (τ := τ) (h := h) o h1 XR.fail (fun v => runPlan P call ops.toList ps (putT (dstOf o) v τ) ds h) with ⟨v, hv, e⟩ | e
        · rw [e] at he'
          intro fuel l X M a w W hf hM A H hw
          refine ihp (lE.setIfInBounds i true) (i :: rs) (putT o.dst v τ) ds h h3 (fun j hj oj hoj => ?_) he' fuel l (i :: X) M a w (W.take hz hi hrd h1 hwar hv) hf hM (A.ahead fun t ht => ?_) H hw
          · rcases List.mem_cons.1 hj with rfl | hj
            · rw [hi] at hoj; cases hoj; exact h1
            · exact hrs j hj oj hoj
          · rcases ht with ⟨k, hk, hd⟩ | hd
            · exact ⟨k, List.mem_cons_of_mem _ hk, hd⟩
            · exact ⟨i, List.mem_cons_self, by rw [hi]; exact hd⟩
        · rw [e] at he'; exact absurd he'.symm hr
    | eff i chk =>
      simp only [planB, Bool.and_eq_true] at hp
      obtain ⟨h1, h2⟩ := hp
      have hone : Region.ready .any ops lE = [i] := eq_of_beq h1
      cases hi : ops[i]? with
      | none => rw [hi] at h2; cases h2
      | some o =>
        rw [hi] at h2
        simp only [Bool.and_eq_true] at h2
        obtain ⟨h2, h3⟩ := h2
        generalize hrs' : (rs.filter fun j => !(o.after.any fun e => Region.binds .any e && e.on == j)) = rs' at h2 h3
        have hoo : opOkB P.globals.size n o = true := Array.all_eq_true_iff_forall_mem.1 hok o (Array.mem_of_getElem? hi)
        have hq : ops.toList[i]? = some o := by simpa using hi
        have he' : nthK ops.toList i .fail (fun o => effK P call ops.toList chk (runPlan P call ops.toList ps) o τ ds h) = r := he
        rw [nthK_some hq] at he'
        have hiE : i ∈ Region.ready .any ops lE := by rw [hone]; exact List.mem_cons_self
        have hsub : ∀ j ∈ rs', j ∈ rs := by intro j hj; rw [← hrs'] at hj; exact (List.mem_filter.1 hj).1
        intro fuel
        induction fuel with
        | zero =>
          intro l X M a w W hf hM A H hw
          have hl := left_zero hf
          exfalso
          have hX := W.empty hl
          subst hX
          obtain ⟨h0, o', ho', ha⟩ := ready_lt hiE
          have : i ∈ Region.ready .any ops l := ready_of W.sz ho' (fun hh => h0 ((W.both i).1 hh).1) fun e he hb => (W.both _).2 ⟨ha e he hb, by simp⟩
          rw [hl] at this; cases this
        | succ fuel ih =>
          intro l X M a w W hf hM A H hw
          refine ⟨fun hl => ?_, fun j hj => ?_⟩
          · exfalso
            have hX := W.empty hl
            subst hX
            obtain ⟨h0, o', ho', ha⟩ := ready_lt hiE
            have : i ∈ Region.ready .any ops l := ready_of W.sz ho' (fun hh => h0 ((W.both i).1 hh).1) fun e he hb => (W.both _).2 ⟨ha e he hb, by simp⟩
            rw [hl] at this; cases this
          rcases W.ready_cases hj with hx | ⟨_, hx⟩
          · exact pend W hz hok hx hj A H fun M' a' w' k1 k2 k3 k4 => ih _ _ M' a' w' (W.comes hx) (left_set W.sz hj hf) (hM.trans k1) k2 k3 (hw.trans k4)
          · rw [hone] at hx
            have hji : j = i := by simpa using hx
            subst hji
            have hl := fun t ht => W.looks hz hi hj (t := t) ht
            -- those that have not come up do not stand ahead of it
            have hXr : ∀ k ∈ X, k ∈ rs' := by
              intro k hk
              rw [← hrs']
              refine List.mem_filter.2 ⟨W.sub k hk, ?_⟩
              simp only [Bool.not_eq_true']
              rw [Bool.eq_false_iff]
              intro hany
              obtain ⟨e, he, hb⟩ := Array.any_eq_true'.1 hany
              simp only [Bool.and_eq_true, beq_iff_eq] at hb
              obtain ⟨_, o', ho', ha⟩ := ready_lt hj
              rw [hi] at ho'; cases ho'
              exact ((W.both _).1 (ha e he hb.1)).2 (hb.2 ▸ hk)
            -- what lies behind it
            have go : ∀ (v : AV) (h' : AH), effK.go P ops.toList chk (runPlan P call ops.toList ps) τ o.dst ds v h' = r → ∀ (M' : Mp) (v' : Value) (w' : World), M.le M' → VRel M' v v' → HRel P B M' h' w' → Below B.n w w' →
                wpAny P .any ops (XQ P n B M₀ w₀ r) fuel (l.setIfInBounds j true) (a.put o.dst v') w' := by
              intro v h' hgo M' v' w' k1 k2 k3 k4
              unfold effK.go at hgo
              cases hrc : recheck P ops.toList chk (putT o.dst v τ) h' with
              | false => rw [hrc] at hgo; exact absurd hgo.symm hr
              | true =>
                rw [hrc] at hgo
                have hR : ∀ k ∈ rs', Rj P ops (putT o.dst v τ) h' k := fun k hk => recheck_sound hrc k (by simpa using List.all_eq_true.1 h2 k hk) (hrs k (hsub k hk))
                exact ihp (lE.setIfInBounds j true) rs' (putT o.dst v τ) ds h' h3 (fun k hk => hrs k (hsub k hk)) hgo fuel _ X M' _ w' (W.acts hi hj hiE hsub hXr hR) (left_set W.sz hj hf) (hM.trans k1) (A.put k1 k2 (opOk_dst hoo)) k3 (hw.trans k4)
            unfold wpOp
            rw [hi]
            simp only
            have he2 : wantedA ops.toList o.guard τ .fail
                (OR.rec (motive := fun _ => XR) (fun v h => effK.go P ops.toList chk (runPlan P call ops.toList ps) τ o.dst ds v h) (fun h => effK.go P ops.toList chk (runPlan P call ops.toList ps) τ o.dst ds (.tup []) h)
                  (fun f args h => CR.rec (motive := fun _ => XR) (fun v h => effK.go P ops.toList chk (runPlan P call ops.toList ps) τ o.dst ds v h) (fun _ _ => .fail) .fail (call f args h)) (fun _ _ => .fail) (fun _ _ => .fail) (fun _ => .fail) .fail (opF P o.op τ h))
                (effK.go P ops.toList chk (runPlan P call ops.toList ps) τ o.dst ds (.tup []) h) = r := he'
            rw [wantedA_eq] at he2
            cases hwe : wantE ops τ o with
            | none => rw [hwe] at he2; exact absurd he2.symm hr
            | some b =>
              rw [hwe] at he2
              rw [want_sound o A (fun g b hg t ht => hl t (guard_looks hg ht)) b hwe]
              cases b with
              | false =>
                rw [if_neg (by simp)]
                exact go (.tup []) h he2 M undef w (Mp.le.refl M) (.tup .nil) H (Below.refl B.n w)
              | true =>
                rw [if_pos rfl]
                left
                have hs := opF_sound (w := w) o (opnds_rel H A (fun t ht => hl t (opnd_looks ht)) hoo) H
                unfold Oper.wp
                cases hop : opF P o.op τ h with
                | val v h' =>
                  rw [hop] at hs he2
                  obtain ⟨M', v', w', k1, k2, k3, k4, k5⟩ := hs
                  rw [k1]
                  exact go v h' he2 M' v' w' k2 k3 k4 k5
                | skip h' =>
                  rw [hop] at hs he2
                  obtain ⟨M', w', k1, k2, k4, k5⟩ := hs
                  rw [k1]
                  exact go (.tup []) h' he2 M' undef w' k2 (.tup .nil) k4 k5
                | call f args h' =>
                  rw [hop] at hs he2
                  obtain ⟨args', k1, k2, k3⟩ := hs
                  rw [k1]
                  dsimp only at he2
                  cases hc : call f args h' with
                  | ret v h'' =>
                    rw [hc] at he2
                    have c := hcall f args args' B M h' w k2 k3 (hI B w₀ w hI₀ hw) (by rw [hc]; simp)
                    rw [hc] at c
                    refine c.upon o a (fun v' w' q => ?_) (fun ch w' q => ?_) (fun w' q => ?_)
                    · obtain ⟨v₂, M', e1, e2, e3, e4, e5⟩ := q
                      cases e1
                      exact go v h'' he2 M' _ w' e2 e3 e4 e5
                    · obtain ⟨v₂, M', e1, _⟩ := q; cases e1
                    · obtain ⟨v₂, M', e1, _⟩ := q; cases e1
                  | pan v h'' => rw [hc] at he2; exact absurd he2.symm hr
                  | fail => rw [hc] at he2; exact absurd he2.symm hr
                | dfr d h' => rw [hop] at he2; exact absurd he2.symm hr
                | pan v h' => rw [hop] at he2; exact absurd he2.symm hr
                | rcv h' => rw [hop] at he2; exact absurd he2.symm hr
                | fail => rw [hop] at he2; exact absurd he2.symm hr
end
end Go.Ev
namespace Go.Ev
open Go Go.RowKit
section
variable {P : Program} {B : Bd} {M : Mp} {h : AH} {w : World} {n : Nat} {τ : Tr AV} {ds : List ADef} {a : Act}

/-- What the evaluator asks of a function's text. -/
def codeOkB (P : Program) (n : Nat) (pl : Nat → List PSt) : Code → Bool
  | .region id ops d => ops.all (opOkB P.globals.size n) && (!d || (hazB P ops && planB P ops (pl id) (Array.replicate ops.size false) []))
  | .seq a b | .cond _ a b => codeOkB P n pl a && codeOkB P n pl b
  | .block _ a | .loop a | .scope a => codeOkB P n pl a
  | _ => true

theorem loop_sound {I : Bd → World → Prop} (hI : IClosed I) {b : CodeF} {c : Code} {r : XR} {M₀ : Mp} {w₀ : World}
    (hI₀ : I B w₀) (hb : ∀ τ ds h M a w r, b τ ds h = r → r ≠ .fail → ARel n noX M τ ds a → HRel P B M h w → I B w → c.wp P (XQ P n B M w r) a w) : ∀ (k : Nat) (τ : Tr AV) (ds : List ADef) (h : AH) (M : Mp) (a : Act) (w : World), loopN b k τ ds h = r → r ≠ .fail → M₀.le M → Below B.n w₀ w → ARel n noX M τ ds a → HRel P B M h w →
      ∀ (fr : Frame) (k : List Item) (cs : List Frame), ∃ e a' w', XQ P n B M₀ w₀ r e a' w' ∧ Arrives P (lone (fr.at a (.code c :: .inLoop c :: k)) cs w) fr k cs e a' w' := by
  intro k
  induction k with
  | zero => intro τ ds h M a w he hr; exact absurd he.symm hr
  | succ k ih =>
    intro τ ds h M a w he hr hM hw A H fr kk cs
    have he' : seqC (loopN b k) (b τ ds h) = r := he
    cases hbr : b τ ds h with
    | norm τ' ds' h' =>
      rw [hbr] at he'
      obtain ⟨e, a₁, w₁, hq, harr⟩ := hb τ ds h M a w _ hbr (by simp) A H (hI B w₀ w hI₀ hw) fr (.inLoop c :: kk) cs
      obtain ⟨rfl, M', k1, k2, k3, k4⟩ := hq
      obtain ⟨e₂, a₂, w₂, hq₂, harr₂⟩ := ih τ' ds' h' M' a₁ w₁ he' hr (hM.trans k1) (hw.trans k4) k2 k3 fr kk cs
      exact ⟨e₂, a₂, w₂, hq₂, .of_steps (Steps.trans harr (.one step_inLoop)) harr₂⟩
    | fail => rw [hbr] at he'; exact absurd he'.symm hr
    | exit id τ' ds' h' =>
      rw [hbr] at he'
      obtain ⟨e, a₁, w₁, hq, harr⟩ := hb τ ds h M a w _ hbr (by simp) A H (hI B w₀ w hI₀ hw) fr (.inLoop c :: kk) cs
      have hq' : XQ P n B M₀ w₀ r e a₁ w₁ := by rw [← he']; exact hq.base hM hw
      obtain ⟨rfl, _⟩ := hq
      exact ⟨_, a₁, w₁, hq', .pass (x := .inLoop c) rfl (fun _ _ => .inl (by simp)) harr⟩
    | goto id τ' ds' h' =>
      rw [hbr] at he'
      obtain ⟨e, a₁, w₁, hq, harr⟩ := hb τ ds h M a w _ hbr (by simp) A H (hI B w₀ w hI₀ hw) fr (.inLoop c :: kk) cs
      have hq' : XQ P n B M₀ w₀ r e a₁ w₁ := by rw [← he']; exact hq.base hM hw
      obtain ⟨rfl, _⟩ := hq
      exact ⟨_, a₁, w₁, hq', .pass (x := .inLoop c) rfl (fun _ _ => .inl (by simp)) harr⟩
    | ret τ' ds' h' =>
      rw [hbr] at he'
      obtain ⟨e, a₁, w₁, hq, harr⟩ := hb τ ds h M a w _ hbr (by simp) A H (hI B w₀ w hI₀ hw) fr (.inLoop c :: kk) cs
      have hq' : XQ P n B M₀ w₀ r e a₁ w₁ := by rw [← he']; exact hq.base hM hw
      obtain ⟨rfl, _⟩ := hq
      exact ⟨_, a₁, w₁, hq', .pass (x := .inLoop c) rfl (fun _ _ => .inl (by simp)) harr⟩
    | pan v τ' ds' h' =>
      rw [hbr] at he'
      obtain ⟨e, a₁, w₁, hq, harr⟩ := hb τ ds h M a w _ hbr (by simp) A H (hI B w₀ w hI₀ hw) fr (.inLoop c :: kk) cs
      have hq' : XQ P n B M₀ w₀ r e a₁ w₁ := by rw [← he']; exact hq.base hM hw
      obtain ⟨v', M', rfl, _⟩ := hq
      exact ⟨_, a₁, w₁, hq', .pass (x := .inLoop c) rfl (fun _ _ => .inl (by simp)) harr⟩

theorem XQ.then_ {r : XR} {M₀ : Mp} {w₀ : World} {next : Act → World → Prop} {r' : XR} (hn : ∀ τ ds h, r = .norm τ ds h → ∀ a w, Core P n B M₀ w₀ τ ds h a w → next a w) (hr : (∀ τ ds h, r ≠ .norm τ ds h) → r' = r) {e : Exit} {a : Act} {w : World} (q : XQ P n B M₀ w₀ r e a w) : Exit.then next (XQ P n B M₀ w₀ r') e a w := by
  cases r with
  | norm τ ds h => obtain ⟨rfl, c⟩ := q; exact hn τ ds h rfl a w c
  | exit id τ ds h => rw [hr fun _ _ _ => by simp]; obtain ⟨rfl, c⟩ := q; exact ⟨rfl, c⟩
  | goto id τ ds h => rw [hr fun _ _ _ => by simp]; obtain ⟨rfl, c⟩ := q; exact ⟨rfl, c⟩
  | ret τ ds h => rw [hr fun _ _ _ => by simp]; obtain ⟨rfl, c⟩ := q; exact ⟨rfl, c⟩
  | pan v τ ds h => rw [hr fun _ _ _ => by simp]; obtain ⟨v', M', rfl, c⟩ := q; exact ⟨v', M', rfl, c⟩
  | fail => exact q.elim

/-- **Code.** -/
theorem code_sound (hm : P.follows .mixedOrders = true) {I : Bd → World → Prop} (hI : IClosed I) {call : CallF} (hcall : CallOk P I call) (pl : Nat → List PSt) (N : Nat) :
    ∀ (c : Code), codeOkB P n pl c = true → ∀ (τ : Tr AV) (ds : List ADef) (h : AH) (M : Mp) (a : Act) (w : World) (r : XR), codeF P pl call N c τ ds h = r → r ≠ .fail → ARel n noX M τ ds a → HRel P B M h w → I B w → c.wp P (XQ P n B M w r) a w := by
  intro c
  induction c with
  | skip => intro _ τ ds h M a w r he hr A H _; subst he; exact wp_skip ⟨rfl, M, Mp.le.refl M, A, H, Below.refl B.n w⟩
  | label l => intro _ τ ds h M a w r he hr A H _; subst he; exact wp_label ⟨rfl, M, Mp.le.refl M, A, H, Below.refl B.n w⟩
  | exit l => intro _ τ ds h M a w r he hr A H _; subst he; exact wp_exit ⟨rfl, M, Mp.le.refl M, A, H, Below.refl B.n w⟩
  | goto l => intro _ τ ds h M a w r he hr A H _; subst he; exact wp_goto ⟨rfl, M, Mp.le.refl M, A, H, Below.refl B.n w⟩
  | ret => intro _ τ ds h M a w r he hr A H _; subst he; exact wp_ret ⟨rfl, M, Mp.le.refl M, A, H, Below.refl B.n w⟩
  | refuse s => intro _ τ ds h M a w r he hr A H _; exact absurd he.symm hr
  | rangeFunc f ps x y => intro _ τ ds h M a w r he hr A H _; exact absurd he.symm hr
  | region id ops d =>
    intro hok τ ds h M a w r he hr A H hI₀
    simp only [codeOkB, Bool.and_eq_true] at hok
    cases d with
    | false =>
      refine wp_region ?_
      rw [List.range_eq_range']
      have := runOps_sound (B := B) hI hcall hok.1 hr (w₀ := w) hI₀ (M₀ := M) ops.toList 0 rfl τ ds h M a w he (Mp.le.refl M) A H (Below.refl B.n w)
      simpa using this
    | true =>
      obtain ⟨h1, h2⟩ := hok
      simp only [Bool.not_true, Bool.false_or, Bool.and_eq_true] at h2
      refine wp_region_any hm ?_
      refine plan_sound hI hcall h1 h2.1 hr (w₀ := w) hI₀ (pl id) _ [] τ ds h h2.2 (fun _ hj => by cases hj) he _ _ [] M a { w with drawn := w.drawn + 1 } ?_ ?_ (Mp.le.refl M) (A.to fun _ hx => hx.elim) (H.same rfl) ((Below.refl B.n w).drew)
      · exact { sz := by simp, szE := by simp, both := fun i => by simp, sub := (fun _ hj => by cases hj), rsl := (fun _ hj => by cases hj), pre := (fun _ hj => by cases hj), pw := .nil, rd := (fun _ hj => by cases hj), rdr := (fun _ hj => by cases hj), war := (fun _ hj => by cases hj) }
      · exact Nat.le_trans (List.length_filter_le _ _) (by simp)
  | seq x y ihx ihy =>
    intro hok τ ds h M a w r he hr A H hI₀
    simp only [codeOkB, Bool.and_eq_true] at hok
    have he' : seqC (codeF P pl call N y) (codeF P pl call N x τ ds h) = r := he
    obtain ⟨r₁, hr₁⟩ : ∃ r₁, codeF P pl call N x τ ds h = r₁ := ⟨_, rfl⟩
    rw [hr₁] at he'
    have hne : r₁ ≠ .fail := fun e => by subst e; exact hr he'.symm
    refine wp_seq (wp_mono (ihx hok.1 τ ds h M a w r₁ hr₁ hne A H hI₀) fun e a' w' q => q.then_ (fun τ' ds' h' e1 a'' w'' c => ?_) (fun hno => ?_))
    · subst e1
      obtain ⟨M', k1, k2, k3, k4⟩ := c
      exact wp_mono (ihy hok.2 τ' ds' h' M' a'' w'' r he' hr k2 k3 (hI B w w'' hI₀ k4)) fun _ _ _ q => q.base k1 k4
    · cases r₁ with
      | norm τ' ds' h' => exact absurd rfl (hno τ' ds' h')
      | _ => exact he'.symm
  | cond c x y ihx ihy =>
    intro hok τ ds h M a w r he hr A H hI₀
    simp only [codeOkB, Bool.and_eq_true] at hok
    have he' : (evO c τ).elimBool .fail (fun b => cond b (codeF P pl call N x τ ds h) (codeF P pl call N y τ ds h)) = r := he
    cases hc : evO c τ with
    | bool b =>
      rw [hc] at he'
      have hv : a.eval c = .bool b := by
        cases c with
        | tmp t =>
          have := A.tmp t id
          have hc' : τ.get .junk (toP t) = .bool b := hc
          rw [hc'] at this
          show a.tmps.getD t undef = _
          generalize a.tmps.getD t undef = y at *
          cases this; rfl
        | const v =>
          have := ofConst_rel (M := M) v
          have hc' : ofConst v = .bool b := hc
          rw [hc'] at this
          show v = _
          cases this; rfl
        | global g => cases hc
        | func f => cases hc
      refine wp_cond hv ?_
      cases b with
      | true => exact ihx hok.1 τ ds h M a w r he' hr A H hI₀
      | false => exact ihy hok.2 τ ds h M a w r he' hr A H hI₀
    | _ => rw [hc] at he'; exact absurd he'.symm hr
  | block id x ih =>
    intro hok τ ds h M a w r he hr A H hI₀
    have he' : blockC id (codeF P pl call N x τ ds h) = r := he
    obtain ⟨r₁, hr₁⟩ : ∃ r₁, codeF P pl call N x τ ds h = r₁ := ⟨_, rfl⟩
    rw [hr₁] at he'
    have hne : r₁ ≠ .fail := fun e => by subst e; exact hr he'.symm
    refine wp_block (wp_mono (ih hok τ ds h M a w r₁ hr₁ hne A H hI₀) fun e a' w' q => ?_)
    cases r₁ with
    | norm τ' ds' h' => obtain ⟨rfl, c⟩ := q; rw [← he']; exact ⟨rfl, c⟩
    | exit id' τ' ds' h' =>
      obtain ⟨rfl, c⟩ := q
      show if id' = id then _ else _
      have he2 : cond (Nat.beq id' id) (.norm τ' ds' h') (.exit id' τ' ds' h') = r := he'
      rw [beqN] at he2
      by_cases e : id' = id
      · rw [if_pos e]; rw [e] at he2; simp at he2; rw [← he2]; exact ⟨rfl, c⟩
      · rw [if_neg e]
        have : decide (id' = id) = false := decide_eq_false e
        rw [this] at he2
        rw [← he2]; exact ⟨rfl, c⟩
    | goto id' τ' ds' h' => obtain ⟨rfl, c⟩ := q; rw [← he']; exact ⟨rfl, c⟩
    | ret τ' ds' h' => obtain ⟨rfl, c⟩ := q; rw [← he']; exact ⟨rfl, c⟩
    | pan v τ' ds' h' => obtain ⟨v', M', rfl, c⟩ := q; rw [← he']; exact ⟨v', M', rfl, c⟩
    | fail => exact q.elim
  | loop x ih =>
    intro hok τ ds h M a w r he hr A H hI₀ b k cs
    obtain ⟨e, a', w', hq, harr⟩ := loop_sound (M₀ := M) (w₀ := w) hI hI₀ (fun τ ds h M a w r h1 h2 h3 h4 h5 => ih hok τ ds h M a w r h1 h2 h3 h4 h5) N τ ds h M a w he hr (Mp.le.refl M) (Below.refl B.n w) A H b k cs
    exact ⟨e, a', w', hq, .of_steps (.one step_loop) harr⟩
  | scope x ih =>
    intro hok τ ds h M a w r he hr A H hI₀
    have he' : scopeC (codeF P pl call N x τ ds h) = r := he
    obtain ⟨r₁, hr₁⟩ : ∃ r₁, codeF P pl call N x τ ds h = r₁ := ⟨_, rfl⟩
    rw [hr₁] at he'
    have hne : r₁ ≠ .fail := fun e => by subst e; exact hr he'.symm
    refine wp_scope_straight (wp_mono (ih hok τ ds h M a w r₁ hr₁ hne A H hI₀) fun e a' w' q => ?_)
    cases r₁ with
    | norm τ' ds' h' => obtain ⟨rfl, c⟩ := q; rw [← he']; exact ⟨rfl, c⟩
    | exit id' τ' ds' h' => obtain ⟨rfl, c⟩ := q; rw [← he']; exact ⟨rfl, c⟩
    | goto id' τ' ds' h' => exact absurd he'.symm hr
    | ret τ' ds' h' => obtain ⟨rfl, c⟩ := q; rw [← he']; exact ⟨rfl, c⟩
    | pan v τ' ds' h' => obtain ⟨v', M', rfl, c⟩ := q; rw [← he']; exact ⟨v', M', rfl, c⟩
    | fail => exact q.elim

/-- What a function's result variables hold. -/
def resS (tmps : Array Value) (x : ResultVar) : Sem Value :=
  match x with
  | .tmp t => pure (tmps.getD t undef)
  | .cell a t => do loadVar t (← asAddr (tmps.getD a undef))
theorem resL_sound (A : ARel n noX M τ ds a) (H : HRel P B M h w) : ∀ (rs : List ResultVar) (vs : List AV), resL P τ h rs = some vs →
    ∃ vs' : List Value, (rs.mapM (resS a.tmps)).run P w = .ok vs' w ∧ LRel M vs vs' := by
  intro rs
  induction rs with
  | nil => intro vs he; cases he; exact ⟨[], rfl, .nil⟩
  | cons x rs ih =>
    intro vs he
    have he' : resV P τ h x none (fun v => Option.rec (motive := fun _ => Option (List AV)) none (fun l => some (v :: l)) (resL P τ h rs)) = some vs := he
    cases hl : resL P τ h rs with
    | none =>
      rw [hl] at he'
      exfalso
      cases x with
      | tmp t => cases he'
      | cell ad t =>
        have he2 : loadV P t (τ.get .junk (toP ad)) h none (fun v => (none : Option (List AV))) = some vs := he'
        rcases load_split t (A.tmp ad id) H (none : Option (List AV)) (fun v => none) with ⟨v, v', adr, e1, e2, e3, e⟩ | e <;> rw [e] at he2 <;> cases he2
    | some l =>
      rw [hl] at he'
      obtain ⟨l', h1, h2⟩ := ih l hl
      cases x with
      | tmp t =>
        cases he'
        refine ⟨a.tmps.getD t undef :: l', ?_, .cons (A.tmp t id) h2⟩
        rw [List.mapM_cons, Sem.run_bind]
        show ((resS a.tmps (.tmp t)).run P w).andThen _ = _
        simp only [resS, Sem.run_pure, Result.andThen_ok, Sem.run_bind, h1]
      | cell ad t =>
        have he2 : loadV P t (τ.get .junk (toP ad)) h none (fun v => some (v :: l)) = some vs := he'
        rcases load_split t (A.tmp ad id) H (none : Option (List AV)) (fun v => some (v :: l)) with ⟨v, v', adr, e1, e2, e3, e⟩ | e <;> rw [e] at he2 <;> cases he2
        refine ⟨v' :: l', ?_, .cons e3 h2⟩
        rw [List.mapM_cons, Sem.run_bind]
        simp only [resS, Sem.run_bind, e1, asAddr, Sem.run_pure, Result.andThen_ok, e2, h1]
theorem results_sound (A : ARel n noX M τ ds a) (H : HRel P B M h w) {fn : Func} {v : AV} {h' : AH} (he : resC P τ h fn.results.toList = .ret v h') : h' = h ∧ ∃ v', (results fn a.tmps).run P w = .ok v' w ∧ VRel M v v' := by
  have he' : (Option.rec (motive := fun _ => CR) .fail (fun vs => List.rec (motive := fun _ => CR) (.ret (.tup []) h) (fun v t _ => List.rec (motive := fun _ => CR) (.ret v h) (fun _ _ _ => .ret (.tup vs) h) t) vs) (resL P τ h fn.results.toList)) = CR.ret v h' := he
  cases hl : resL P τ h fn.results.toList with
  | none => rw [hl] at he'; cases he'
  | some vs =>
    rw [hl] at he'
    obtain ⟨vs', h1, h2⟩ := resL_sound A H _ _ hl
    have hrun : (results fn a.tmps).run P w = .ok (if h : vs'.toArray.size = 1 then vs'.toArray[0] else .tuple vs'.toArray) w := by
      have e : results fn a.tmps = (do let vs ← fn.results.mapM (resS a.tmps); pure (if h : vs.size = 1 then vs[0] else .tuple vs)) := by
        unfold results
        congr 1
      rw [e, Sem.run_bind]
      have e2 : fn.results.mapM (resS a.tmps) = List.toArray <$> fn.results.toList.mapM (resS a.tmps) := by
        rw [← List.mapM_toArray]
      rw [e2, map_eq_pure_bind, Sem.run_bind, h1]
      rfl
    rw [hrun]
    cases h2 with
    | nil => cases he'; exact ⟨rfl, _, rfl, .tup .nil⟩
    | cons hv ht => cases ht with
      | nil => cases he'; exact ⟨rfl, _, rfl, hv⟩
      | cons hv' ht => cases he'; exact ⟨rfl, _, rfl, .tup (.cons hv (.cons hv' ht))⟩
theorem resC_ret {rs : List ResultVar} : resC P τ h rs ≠ .fail → ∃ v h', resC P τ h rs = .ret v h' := by
  unfold resC
  cases resL P τ h rs with
  | none => intro hh; exact absurd rfl hh
  | some vs => intro _; cases vs with
    | nil => exact ⟨_, _, rfl⟩
    | cons v t => cases t <;> exact ⟨_, _, rfl⟩

/-- The program's text is such that the evaluator speaks of it. -/
def fnOkB (P : Program) (pl : Nat → Nat → List PSt) (f : Nat) : Bool :=
  match P.funcs[f]? with
  | none => true
  | some fn => match fn.body with
    | none => true
    | some c => !(fn.name == "runtime.NumGoroutine") && codeOkB P fn.ntmps (pl f) c
/-- What is said of functions without looking at their text. -/
def OrcOk (P : Program) (I : Bd → World → Prop) (orc : Nat → Option (List AV → AH → CR)) : Prop :=
  ∀ f g, orc f = some g → ∀ args args' B M h w, LRel M args args'.toList → HRel P B M h w → I B w → g args h ≠ .fail → CallT P f args' w (CQ P B M w (g args h))

theorem initT_rel {args : List AV} {args' : Array Value} (hl : LRel M args args'.toList) (k : Nat) (t : Nat) : VRel M ((putL args 0 .nil).get .junk (toP t)) ((args' ++ Array.replicate k undef).getD t undef) := by
  have hlen := hl.length
  rw [putL_get]
  by_cases ht : t < args.length
  · rw [if_pos ⟨Nat.zero_le _, by simpa using ht⟩]
    have hsz : t < args'.size := by rw [← Array.length_toList, hlen]; exact ht
    have : (args' ++ Array.replicate k undef).getD t undef = args'[t] := by
      rw [Array.getD_eq_getD_getElem?, Array.getElem?_append_left hsz, Array.getElem?_eq_getElem hsz]; rfl
    rw [this]
    exact hl.get _ _ (by simp [hsz])
  · rw [if_neg (by simp; omega)]
    have : (Tr.nil : Tr AV).get .junk (toP t) = .junk := Tr.get_nil _ _
    rw [this]; exact .junk _

/-- **Calls.** -/
theorem evalF_sound (hm : P.follows .mixedOrders = true) {I : Bd → World → Prop} (hI : IClosed I) {pl : Nat → Nat → List PSt} (hok : ∀ f, fnOkB P pl f = true) {orc : Nat → Option (List AV → AH → CR)} (horc : OrcOk P I orc) (N : Nat) :
    ∀ fuel, CallOk P I (evalF P pl orc N fuel) := by
  intro fuel
  induction fuel with
  | zero => intro f args args' B M h w _ _ _ hne; exact absurd rfl hne
  | succ fuel ih =>
    intro f args args' B M h w hl H hI₀ hne
    have e : evalF P pl orc N (fuel + 1) f args h = Option.rec (motive := fun _ => CR)
      (Option.rec (motive := fun _ => CR) .fail (fun fn => Option.rec (motive := fun _ => CR) .fail (fun c => leaveC P fn.results.toList (codeF P (pl f) (evalF P pl orc N fuel) N c (putL args 0 .nil) [] h)) fn.body) (P.funcs[f]?))
      (fun g => g args h) (orc f) := rfl
    rw [e] at hne ⊢
    cases ho : orc f with
    | some g => rw [ho] at hne; exact horc f g ho args args' B M h w hl H hI₀ hne
    | none =>
      rw [ho] at hne
      dsimp only at hne ⊢
      have hk := hok f
      unfold fnOkB at hk
      cases hf : P.funcs[f]? with
      | none => rw [hf] at hne; exact absurd rfl hne
      | some fn =>
        rw [hf] at hne hk
        dsimp only at hne hk ⊢
        cases hb : fn.body with
        | none => rw [hb] at hne; exact absurd rfl hne
        | some c =>
          rw [hb] at hne hk
          dsimp only at hne hk ⊢
          simp only [Bool.and_eq_true, Bool.not_eq_true'] at hk
          have hcall : (callFunc f args').run P w = .ok (.enter f args') w := by
            have hn : ¬ fn.name = "runtime.NumGoroutine" := by simpa using hk.1
            simp [callFunc, hf, hn, hb]
          unfold CallT
          rw [hcall]
          obtain ⟨r, hr⟩ : ∃ r, codeF P (pl f) (evalF P pl orc N fuel) N c (putL args 0 .nil) [] h = r := ⟨_, rfl⟩
          rw [hr] at hne ⊢
          have hrne : r ≠ .fail := fun e => by subst e; exact hne rfl
          have A : ARel fn.ntmps noX M (putL args 0 .nil) [] { tmps := args' ++ Array.replicate (fn.ntmps - args'.size) undef, defers := [] } :=
            ⟨by simp; omega, fun t _ => initT_rel hl _ t, .nil⟩
          refine calls_of_wp hf hb (wp_mono (code_sound hm hI ih (pl f) N c hk.2 _ _ _ M _ w r hr hrne A H hI₀) fun e a w' q => ?_)
          have fin : ∀ τ ds h', XR.rec (motive := fun _ => CR) (fun τ ds h => noDef ds (resC P τ h fn.results.toList)) (fun _ _ _ _ => .fail) (fun _ _ _ _ => .fail) (fun τ ds h => noDef ds (resC P τ h fn.results.toList)) (fun v _ ds h => noDef ds (.pan v h)) .fail r = noDef ds (resC P τ h' fn.results.toList) →
              Core P fn.ntmps B M w τ ds h' a w' → a.defers = [] ∧ ∃ v, (results fn a.tmps).run P w' = .ok v w' ∧ CQ P B M w (leaveC P fn.results.toList r) (.returned v) w' := by
            intro τ ds h' e1 c1
            have e2 : leaveC P fn.results.toList r = noDef ds (resC P τ h' fn.results.toList) := e1
            rw [e2] at hne ⊢
            obtain ⟨M', k1, k2, k3, k4⟩ := c1
            cases ds with
            | cons d ds => exact absurd rfl hne
            | nil =>
              have hne' : resC P τ h' fn.results.toList ≠ .fail := hne
              have e3 : noDef [] (resC P τ h' fn.results.toList) = resC P τ h' fn.results.toList := rfl
              rw [e3]
              obtain ⟨v, h'', e4⟩ := resC_ret hne'
              obtain ⟨rfl, v', e5, e6⟩ := results_sound k2 k3 e4
              refine ⟨?_, v', e5, ?_⟩
              · have := k2.dfr
                generalize a.defers = dd at this
                cases this; rfl
              · rw [e4]; exact ⟨v', M', rfl, k1, e6, k3, k4⟩
          cases r with
          | norm τ ds h' => obtain ⟨rfl, c1⟩ := q; exact fin τ ds h' rfl c1
          | ret τ ds h' => obtain ⟨rfl, c1⟩ := q; exact fin τ ds h' rfl c1
          | pan v τ ds h' =>
            obtain ⟨v', M', rfl, k1, k2, k3, k4, k5⟩ := q
            cases ds with
            | cons d ds => exact absurd rfl hne
            | nil =>
              refine ⟨?_, v', M', rfl, k1, k2, k4, k5⟩
              have := k3.dfr
              generalize a.defers = dd at this
              cases this; rfl
          | exit => exact absurd rfl hne
          | goto => exact absurd rfl hne
          | fail => exact q.elim
end
end Go.Ev
namespace Go.Ev
open Go Go.RowKit
section
variable {P : Program} {B : Bd} {M : Mp} {h : AH} {w w' : World}

/-- Blocks that lay there are as they were. -/
theorem HRel.frame (H : HRel P B M h w) (b : Below w.heap.size w w') : HRel P B M h w' := by
  refine ⟨fun c p hp hc => ?_, H.inj, H.fresh, H.glob, H.own, Nat.le_trans H.big b.size, H.gnext, H.ghost⟩
  rw [b.block _ (H.lt hc hp)]
  exact H.blk c p hp hc
theorem below_weaken {m n : Nat} (hmn : m ≤ n) (b : Below n w w') : Below m w w' := ⟨b.os, b.tape, b.output, b.size, fun k hk => b.block k (by omega)⟩

/-- A value without places. -/
noncomputable def flat1 : AV → Bool
  | .bool _ | .int _ _ | .str _ => true
  | _ => false
noncomputable def flatB : AV → Bool
  | .tup l => l.all flat1
  | .agg l => l.all flat1
  | v => flat1 v
theorem VRel.flat1 {M M' : Mp} {v : AV} {v' : Value} (h : VRel M v v') (hf : flat1 v = true) : VRel M' v v' := by
  cases h <;> first | (simp [Go.Ev.flat1] at hf; done) | constructor
theorem LRel.flat {M M' : Mp} : ∀ {l : List AV} {l' : List Value}, LRel M l l' → l.all flat1 = true → LRel M' l l'
  | _, _, .nil, _ => .nil
  | _, _, .cons h t, hf => by
    simp only [List.all_cons, Bool.and_eq_true] at hf
    exact .cons (h.flat1 hf.1) (LRel.flat t hf.2)
theorem VRel.flat {M M' : Mp} {v : AV} {v' : Value} (h : VRel M v v') (hf : flatB v = true) : VRel M' v v' := by
  cases h with
  | tup h => exact .tup (h.flat hf)
  | agg h => exact .agg (h.flat hf)
  | bool b => exact .bool b
  | int k n => exact .int k n
  | str s => exact .str s
  | _ => simp [flatB, Go.Ev.flat1] at hf
theorem LRel.flatB {M M' : Mp} : ∀ {l : List AV} {l' : List Value}, LRel M l l' → l.all flatB = true → LRel M' l l'
  | _, _, .nil, _ => .nil
  | _, _, .cons h t, hf => by
    simp only [List.all_cons, Bool.and_eq_true] at hf
    exact .cons (h.flat hf.1) (LRel.flatB t hf.2)

/-- The globals lie as hG says, and what else is asked of them holds. -/
def IGw (P : Program) (hG : AH) (E : World → Prop) (w : World) : Prop := E w ∧ ∃ M, HRel P ⟨w.heap.size, fun _ => False⟩ M hG w
def IG (P : Program) (hG : AH) (E : World → Prop) (B : Bd) (w : World) : Prop := P.globals.size ≤ B.n ∧ IGw P hG E w
theorem IG_closed {hG : AH} {E : World → Prop} (hn : hG.next = P.globals.size) (hE : ∀ n w w', P.globals.size ≤ n → E w → Below n w w' → E w') : IClosed (IG P hG E) := by
  rintro B w w' ⟨hB, he, M, H⟩ b
  refine ⟨hB, hE _ _ _ hB he b, M, ⟨fun c p hp hc => ?_, H.inj, H.fresh, H.glob, fun c p hp => .inl ?_, Nat.le_refl _, H.gnext, fun _ h => h.elim⟩⟩
  · have hlt : c < P.globals.size := by
      rcases Nat.lt_or_ge c P.globals.size with h1 | h1
      · exact h1
      · rw [H.fresh c (by omega)] at hp; cases hp
    obtain ⟨s, z, e⟩ := H.glob c hlt
    rw [hp] at e; cases e
    show BRel P M w'.heap[c]? _ _
    rw [b.block c (by omega)]
    exact H.blk c _ hp hc
  · rcases Nat.lt_or_ge c P.globals.size with h1 | h1
    · exact h1
    · rw [H.fresh c (by omega)] at hp; cases hp

/-- The call of f at these comes to that, and touches nothing that lay there. -/
def Ctr (P : Program) (hG : AH) (E : World → Prop) (f : Nat) (args : List AV) (v : AV) : Prop :=
  ∀ w args' M, IGw P hG E w → P.globals.size ≤ w.heap.size → LRel M args args'.toList → CallT P f args' w fun e w' => ∃ v', e = .returned v' ∧ (∀ M', VRel M' v v') ∧ Below w.heap.size w w'

theorem CallT.mono {f : Nat} {args : Array Value} {R R' : Ending → World → Prop} (c : CallT P f args w R) (h : ∀ e w', R e w' → R' e w') : CallT P f args w R' := by
  unfold CallT at *
  generalize (callFunc f args).run P w = r at *
  cases r with
  | ok x w' =>
    cases x with
    | value v => exact h _ _ c
    | enter g as => exact Calls.mono c h
    | row row as => exact Rows.mono c fun v w'' => h _ _
    | _ => exact c
  | halt x w' => exact c

theorem Ctr.orc {hG : AH} {E : World → Prop} {f : Nat} {args : List AV} {v : AV} (c : Ctr P hG E f args v) {args' : Array Value} (hl : LRel M args args'.toList) (H : HRel P B M h w) (hI : IG P hG E B w) : CallT P f args' w (CQ P B M w (.ret v h)) := by
  refine (c w args' M hI.2 (Nat.le_trans hI.1 H.big) hl).mono fun e w' ⟨v', h1, h2, h3⟩ => ?_
  exact ⟨v', M, h1, Mp.le.refl M, h2 M, H.frame h3, below_weaken H.big h3⟩

/-- What the evaluator finds over the globals alone is a contract. -/
theorem Ctr.eval {hG : AH} {E : World → Prop} {call : CallF} (hcall : CallOk P (IG P hG E) call) {f : Nat} {args : List AV} {v : AV} {h' : AH} (he : call f args hG = .ret v h') (ha : args.all flatB = true) (hv : flatB v = true) : Ctr P hG E f args v := by
  intro w args' M ⟨hE, M₀, H⟩ hsz hl
  have c := hcall f args args' ⟨w.heap.size, fun _ => False⟩ M₀ hG w (hl.flatB ha) H ⟨hsz, hE, M₀, H⟩ (by rw [he]; simp)
  rw [he] at c
  exact c.mono fun e w' ⟨v', M', h1, h2, h3, h4, h5⟩ => ⟨v', h1, fun M'' => h3.flat hv, h5⟩

/-- Oracles whose answers are contracts. -/
theorem orcOk {hG : AH} {E : World → Prop} {orc : Nat → Option (List AV → AH → CR)} (h : ∀ f g, orc f = some g → ∀ args h, g args h = .fail ∨ ∃ v, g args h = .ret v h ∧ Ctr P hG E f args v) : OrcOk P (IG P hG E) orc := by
  intro f g hg args args' B M ha w hl H hI hne
  rcases h f g hg args ha with e | ⟨v, e, c⟩
  · exact absurd e hne
  · rw [e]; exact c.orc hl H hI

/-- A contract of the kit's, over values that leave no trace. -/
theorem Ctr.of_calls {hG : AH} {E : World → Prop} {f : Nat} {args : List AV} {v : AV} (h : ∀ w args' M, IGw P hG E w → P.globals.size ≤ w.heap.size → LRel M args args'.toList → (callFunc f args').run P w = .ok (.enter f args') w ∧ Calls P f args' w fun e w' => ∃ v', e = .returned v' ∧ (∀ M', VRel M' v v') ∧ Below w.heap.size w w') : Ctr P hG E f args v := by
  intro w args' M hI hsz hl
  obtain ⟨h1, h2⟩ := h w args' M hI hsz hl
  unfold CallT
  rw [h1]
  exact h2
/-- What a function without a body answers at once. -/
theorem Ctr.of_value {hG : AH} {E : World → Prop} {f : Nat} {args : List AV} {v : AV} (h : ∀ w args' M, E w → LRel M args args'.toList → ∃ v', (callFunc f args').run P w = .ok (.value v') w ∧ ∀ M', VRel M' v v') : Ctr P hG E f args v := by
  intro w args' M hI hsz hl
  obtain ⟨v', h1, h2⟩ := h w args' M hI.1 hl
  unfold CallT
  rw [h1]
  exact ⟨v', rfl, h2, Below.refl _ w⟩
end
end Go.Ev
namespace Go.Ev
open Go Go.RowKit

theorem nats_bytes (s : ByteArray) : (natsOf s).map UInt8.ofNat = s.data.toList := by
  unfold natsOf
  rw [List.map_map]
  conv => rhs; rw [← List.map_id s.data.toList]
  apply List.map_congr_left
  intro b _
  simp
theorem nats_eq (s : ByteArray) : natsOf s = s.data.toList.map UInt8.toNat := rfl
theorem natsOf_mk (l : List UInt8) : natsOf ⟨l.toArray⟩ = l.map UInt8.toNat := rfl

theorem beq_nat (b : UInt8) (c : Nat) (hc : c < 256) : Nat.beq b.toNat c = (b == c.toUInt8) := by
  rw [beqN, Bool.eq_iff_iff]
  simp only [decide_eq_true_eq, beq_iff_eq]
  constructor
  · intro h; subst h; simp
  · intro h; subst h; simp [Nat.toUInt8, UInt8.toNat_ofNat', Nat.mod_eq_of_lt hc]

/-- The first place of a byte. -/
noncomputable def idxA (c : Nat) (l : List Nat) : Int := List.rec (motive := fun _ => Int) (Int.negSucc 0) (fun x _ ih => cond (Nat.beq x c) (Int.ofNat 0) (Int.rec (motive := fun _ => Int) (fun n => Int.ofNat (Nat.succ n)) (fun _ => Int.negSucc 0) ih)) l
theorem idxA_eq (c : Nat) (hc : c < 256) : ∀ l : List UInt8, idxA c (l.map UInt8.toNat) = Lib.indexByte l c.toUInt8
  | [] => rfl
  | b :: l => by
    have ih := idxA_eq c hc l
    show cond (Nat.beq b.toNat c) (Int.ofNat 0) (Int.rec (motive := fun _ => Int) (fun n => Int.ofNat (Nat.succ n)) (fun _ => Int.negSucc 0) (idxA c (l.map UInt8.toNat))) = _
    have e : Lib.indexByte (b :: l) c.toUInt8 = if b == c.toUInt8 then 0 else if Lib.indexByte l c.toUInt8 == -1 then -1 else Lib.indexByte l c.toUInt8 + 1 := by rw [Lib.indexByte]
    rw [beq_nat b c hc, ih, e]
    have hg := Lib.indexByte_ge l c.toUInt8
    generalize Lib.indexByte l c.toUInt8 = i at hg
    cases b == c.toUInt8 with
    | true => rfl
    | false =>
      simp only [cond_false, Bool.false_eq_true, if_false]
      cases i with
      | ofNat n =>
        have : ((Int.ofNat n) == -1) = false := rfl
        rw [this]; rfl
      | negSucc n =>
        have hn : n = 0 := by omega
        subst hn; rfl
noncomputable def cntA (c : Nat) (l : List Nat) : Nat := List.rec (motive := fun _ => Nat) 0 (fun x _ ih => cond (Nat.beq x c) (Nat.succ ih) ih) l
theorem cntA_eq (c : Nat) (hc : c < 256) : ∀ l : List UInt8, cntA c (l.map UInt8.toNat) = Lib.countByte l c.toUInt8
  | [] => rfl
  | b :: l => by
    have ih := cntA_eq c hc l
    show cond (Nat.beq b.toNat c) (Nat.succ (cntA c (l.map UInt8.toNat))) (cntA c (l.map UInt8.toNat)) = _
    rw [beq_nat b c hc, ih]
    unfold Lib.countByte
    rw [List.count_cons]
    cases h : b == c.toUInt8 <;> simp
noncomputable def preA (m : List Nat) : List Nat → Bool := List.rec (motive := fun _ => List Nat → Bool) (fun _ => true) (fun x _ ih l => List.rec (motive := fun _ => Bool) false (fun y t _ => cond (Nat.beq x y) (ih t) false) l) m
theorem preA_eq : ∀ (m l : List UInt8), preA (m.map UInt8.toNat) (l.map UInt8.toNat) = m.isPrefixOf l
  | [], l => by cases l <;> rfl
  | _ :: _, [] => rfl
  | x :: m, y :: l => by
    show cond (Nat.beq x.toNat y.toNat) (preA (m.map UInt8.toNat) (l.map UInt8.toNat)) false = (x == y && m.isPrefixOf l)
    rw [preA_eq m l, beqN]
    by_cases h : x = y
    · subst h; simp
    · have : ¬ x.toNat = y.toNat := fun e => h (UInt8.toNat_inj.1 e)
      have h' : (x == y) = false := by simpa using h
      rw [h', decide_eq_false this]; rfl
noncomputable def contA (m l : List Nat) : Bool := List.rec (motive := fun _ => Bool) (preA m []) (fun x t ih => cond (preA m (x :: t)) true ih) l
theorem contA_eq (m : List UInt8) : ∀ l : List UInt8, contA (m.map UInt8.toNat) (l.map UInt8.toNat) = Lib.contains l m
  | [] => by
    show preA (m.map UInt8.toNat) ([] : List Nat) = _
    have := preA_eq m []
    rw [List.map_nil] at this
    rw [this]
    cases m <;> rfl
  | b :: l => by
    have ih := contA_eq m l
    show cond (preA (m.map UInt8.toNat) ((b :: l).map UInt8.toNat)) true (contA (m.map UInt8.toNat) (l.map UInt8.toNat)) = _
    rw [preA_eq, ih]
    unfold Lib.contains
    rw [Lib.index]
    have hg := Lib.index_ge l m
    cases h : m.isPrefixOf (b :: l) with
    | true => simp
    | false =>
      simp only [cond_false, Bool.false_eq_true, if_false]
      by_cases h2 : Lib.index l m = -1
      · rw [h2]; rfl
      · have : (Lib.index l m == -1) = false := by simpa using h2
        rw [this]
        simp only [Bool.false_eq_true, if_false]
        congr 1
        exact propext ⟨fun _ => by omega, fun _ => by omega⟩
noncomputable def repA (l : List Nat) (n : Nat) : List Nat := Nat.rec (motive := fun _ => List Nat) [] (fun _ ih => appL l ih) n
theorem repA_eq (l : List UInt8) : ∀ n, repA (l.map UInt8.toNat) n = (Lib.repeatL l n).map UInt8.toNat
  | 0 => rfl
  | n + 1 => by
    show appL (l.map UInt8.toNat) (repA (l.map UInt8.toNat) n) = _
    rw [appL_eq', repA_eq l n, Lib.repeatL, List.map_append]

/-! ### What arguments are -/
variable {M : Mp}
theorem args_nil {args' : Array Value} (h : LRel M [] args'.toList) : args' = #[] := by
  obtain ⟨l⟩ := args'; cases h; rfl
theorem VRel.str_inv {l : List Nat} {v' : Value} (h : VRel M (.str l) v') : ∃ s, l = natsOf s ∧ v' = .string s := by cases h; exact ⟨_, rfl, rfl⟩
theorem VRel.int_inv {k : IntKind} {n : Int} {v' : Value} (h : VRel M (.int k n) v') : v' = .int k n := by cases h; rfl
theorem args_s {l : List Nat} {args' : Array Value} (h : LRel M [.str l] args'.toList) : ∃ s, l = natsOf s ∧ args' = #[.string s] := by
  obtain ⟨a⟩ := args'
  cases h with
  | cons h t => cases t; obtain ⟨s, e, rfl⟩ := h.str_inv; exact ⟨s, e, rfl⟩
theorem args_ss {l m : List Nat} {args' : Array Value} (h : LRel M [.str l, .str m] args'.toList) : ∃ s u, l = natsOf s ∧ m = natsOf u ∧ args' = #[.string s, .string u] := by
  obtain ⟨a⟩ := args'
  cases h with
  | cons h t => cases t with
    | cons h2 t => cases t; obtain ⟨s, e, rfl⟩ := h.str_inv; obtain ⟨u, e2, rfl⟩ := h2.str_inv; exact ⟨s, u, e, e2, rfl⟩
theorem args_si {l : List Nat} {k : IntKind} {n : Int} {args' : Array Value} (h : LRel M [.str l, .int k n] args'.toList) : ∃ s, l = natsOf s ∧ args' = #[.string s, .int k n] := by
  obtain ⟨a⟩ := args'
  cases h with
  | cons h t => cases t with
    | cons h2 t => cases t; obtain ⟨s, e, rfl⟩ := h.str_inv; rw [h2.int_inv]; exact ⟨s, e, rfl⟩
end Go.Ev
