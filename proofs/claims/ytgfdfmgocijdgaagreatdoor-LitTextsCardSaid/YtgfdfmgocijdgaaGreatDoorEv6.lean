/- Maps; operations at large; plans of regions whose order is drawn. -/
import Derived.Test.YtgfdfmgocijdgaaGreatDoorEv5
namespace Go.Ev
open Go Go.RowKit
variable {α β : Type}
section
variable {P : Program} {B : Bd} {M : Mp} {w : World} {h : AH}
theorem SV.of_eq' {s s' : Sem Value} {r : OR} (e : s.run P w = s'.run P w) (hs : SV P B M w s' r) : SV P B M w s r := by
  cases r with
  | val v h' => obtain ⟨M', v', w', h1, h2⟩ := hs; exact ⟨M', v', w', e.trans h1, h2⟩
  | fail => trivial
  | _ => exact hs.elim

theorem eqL_nats (a b : ByteArray) : eqL (natsOf a) (natsOf b) = (a == b) := by rw [eqL_str, ← beq_toListBytes]
theorem sameKA_split (u : TypeDesc) {a b : AV} {x y : Value} (ha : VRel M a x) (hb : VRel M b y) (d : β) (f : Bool → β) : (∃ t, Instr.sameNow u x y = some t ∧ sameKA u a b d f = f t) ∨ sameKA u a b d f = d := by
  cases u with
  | int k =>
    cases ha with
    | int k1 n1 => cases hb with
      | int k2 n2 =>
        show (∃ t, _ ∧ cond (Nat.beq (kIdx k1) (kIdx k2)) (f (eqI n1 n2)) d = f t) ∨ cond (Nat.beq (kIdx k1) (kIdx k2)) (f (eqI n1 n2)) d = d
        rw [beqN]
        by_cases e : kIdx k1 = kIdx k2
        · have := kIdx_inj e
          subst this
          left
          exact ⟨n1 == n2, by simp [Instr.sameNow], by rw [decide_eq_true rfl, eqI_eq]; rfl⟩
        · right; rw [decide_eq_false e]; rfl
      | _ => right; rfl
    | _ => right; rfl
  | string =>
    cases ha with
    | str s1 => cases hb with
      | str s2 => left; exact ⟨s1 == s2, rfl, by show f (eqL (natsOf s1) (natsOf s2)) = _; rw [eqL_nats]⟩
      | _ => right; rfl
    | _ => right; rfl
  | _ => right; rfl
theorem lookA_split (u : TypeDesc) {k : AV} {k' : Value} (hk : VRel M k k') (d z : β) (f : AV → β) : ∀ {es : List (AV × AV)} {l : List MapEntry}, ERel M es l → ∀ i₀,
    (∃ i v v', Instr.findNow u k' l i₀ = some (some (i, v')) ∧ VRel M v v' ∧ lookA u k es d z f = f v) ∨ (Instr.findNow u k' l i₀ = some none ∧ lookA u k es d z f = z) ∨ lookA u k es d z f = d
  | _, _, .nil, i₀ => .inr (.inl ⟨rfl, rfl⟩)
  | _, _, .cons (k := ek) (v := ev) (e := e) (l := es) (l' := l) h1 h2 ht, i₀ => by
    have e0 : lookA u k ((ek, ev) :: es) d z f = sameKA u k ek d fun t => cond t (f ev) (lookA u k es d z f) := rfl
    rw [e0]
    rcases sameKA_split u hk h1 d (fun t => cond t (f ev) (lookA u k es d z f)) with ⟨t, e1, e2⟩ | e2
    · rw [e2]
      cases t with
      | true => left; exact ⟨i₀, ev, e.val, by simp [Instr.findNow, e1], h2, rfl⟩
      | false =>
        rcases lookA_split u hk d z f ht (i₀ + 1) with ⟨i, v, v', q1, q2, q3⟩ | ⟨q1, q2⟩ | q
        · left; exact ⟨i, v, v', by simp [Instr.findNow, e1, q1], q2, q3⟩
        · right; left; exact ⟨by simp [Instr.findNow, e1, q1], q2⟩
        · right; right; exact q
    · right; right; exact e2
theorem updA_split (u : TypeDesc) {k v : AV} {k' v' : Value} (hk : VRel M k k') (hv : VRel M v v') (born : Nat) (d : β) : ∀ {es : List (AV × AV)} {l : List MapEntry}, ERel M es l → ∀ i₀ (f : List (AV × AV) → β),
    (∃ i j e u' es₂, Instr.findNow u k' l i₀ = some (some (i, u')) ∧ i = i₀ + j ∧ l[j]? = some e ∧ Instr.sameNow u k' e.key = some true ∧ ERel M es₂ (l.modify j fun e => { e with key := k', val := v' }) ∧ updA u k v es d f = f es₂) ∨
    (∃ es₂, Instr.findNow u k' l i₀ = some none ∧ ERel M es₂ (l ++ [{ key := k', val := v', born }]) ∧ updA u k v es d f = f es₂) ∨ updA u k v es d f = d
  | _, _, .nil, i₀, f => .inr (.inl ⟨[(k, v)], rfl, .cons hk hv .nil, rfl⟩)
  | _, _, .cons (k := ek) (v := ev) (e := e) (l := es) (l' := l) h1 h2 ht, i₀, f => by
    have e0 : updA u k v ((ek, ev) :: es) d f = sameKA u k ek d fun s => cond s (f ((k, v) :: es)) (updA u k v es d fun t => f ((ek, ev) :: t)) := rfl
    rw [e0]
    rcases sameKA_split u hk h1 d (fun s => cond s (f ((k, v) :: es)) (updA u k v es d fun t => f ((ek, ev) :: t))) with ⟨t, e1, e2⟩ | e2
    · rw [e2]
      cases t with
      | true => left; exact ⟨i₀, 0, e, e.val, (k, v) :: es, by simp [Instr.findNow, e1], rfl, rfl, e1, .cons hk hv ht, rfl⟩
      | false =>
        rcases updA_split u hk hv born d ht (i₀ + 1) (fun t => f ((ek, ev) :: t)) with ⟨i, j, e', u', es₂, q1, q2, q3, q4, q5, q6⟩ | ⟨es₂, q1, q2, q3⟩ | q
        · left; exact ⟨i, j + 1, e', u', (ek, ev) :: es₂, by simp [Instr.findNow, e1, q1], by omega, by simpa using q3, q4, .cons h1 h2 q5, q6⟩
        · right; left; exact ⟨(ek, ev) :: es₂, by simp [Instr.findNow, e1, q1], .cons h1 h2 q2, q3⟩
        · right; right; exact q
    · right; right; exact e2
theorem sameNow_bits {u : TypeDesc} {x y : Value} (e : Instr.sameNow u x y = some true) (hu : isKeyD u = true) : (Instr.keyThatStays y x).run P w = .ok x w := by
  have : Instr.sameBits 10000 y x = true := by
    unfold Instr.sameNow at e
    split at e
    · rename_i k a k' b
      by_cases hk : k = k'
      · subst hk
        simp only [if_true, Option.some.injEq, beq_iff_eq] at e
        subst e
        simp [Instr.sameBits]
      · rw [if_neg hk] at e; cases e
    · rename_i a b
      simp only [Option.some.injEq] at e
      have : (b == a) = true := by
        rw [beq_toListBytes] at e ⊢
        rw [eq_of_beq e]; exact beq_self_eq_true _
      simp [Instr.sameBits, this]
    · simp [isKeyD] at hu
    · cases e
  simp [Instr.keyThatStays, this]
theorem mapA_split (t : Nat) (d : β) (f : TypeDesc → Nat → β) : (∃ k e u, P.underlying t = some (.map k e) ∧ P.underlying k = some u ∧ isKeyD u = true ∧ mapA P t d f = f u e) ∨ mapA P t d f = d := by
  unfold mapA
  split
  · rename_i k e hu
    cases hk : P.underlying k with
    | none => right; rfl
    | some u =>
      cases hkd : isKeyD u with
      | false => right; show cond (isKeyD u) _ _ = _; rw [hkd]; rfl
      | true => left; exact ⟨k, e, u, hu, hk, hkd, by show cond (isKeyD u) _ _ = _; rw [hkd]; rfl⟩
  · right; rfl
theorem checkKey_run {b : Bool} {k : Nat} {u : TypeDesc} (hk : P.underlying k = some u) (hu : isKeyD u = true) (v : Value) : (Instr.checkKey b 10000 k v).run P w = .ok () w := by
  cases u <;> first | (simp [isKeyD] at hu; done) | skip
  all_goals (rw [Instr.checkKey, Sem.run_bind, run_underlying hk, Result.andThen_ok]; rfl)
theorem findKey_run {k : Nat} {u : TypeDesc} (hk : P.underlying k = some u) {v : Value} {es : List MapEntry} {r : Option (Nat × Value)} (hr : Instr.findNow u v es 0 = some r) : (Instr.findKey k v es).run P w = .ok r w := by
  rw [Instr.findKey, Sem.run_bind, run_underlying hk, Result.andThen_ok, hr]; rfl

theorem newMap (H : HRel P B M h w) : SV P B M w (do pure (.map (some (← newObj (.map #[] 0))))) (h.alloc (.map []) fun b h => .val (.mp b) h) := by
  rw [AH.alloc_eq]
  have hn := H.fresh h.next (Nat.le_refl _)
  refine ⟨M.ext h.next ⟨w.heap.size, 0, 0, 0⟩, .map (some w.heap.size), w.alloc (.map #[] 0), rfl, Mp.le_next H _, .mp (p := ⟨w.heap.size, 0, 0, 0⟩) Mp.ext_self, ?_, Below.new H _⟩
  exact H.alloc _ ⟨w.heap.size, 0, 0, 0⟩ rfl _ ⟨#[], 0, rfl, .nil⟩
theorem makeMap_sound (t : Nat) {r : Option AV} {r' : Option Value} (hr : OpRel M r r') (H : HRel P B M h w) : SV P B M w (Instr.makeMap t r') (makeMapOp P t r h) := by
  cases hr with
  | none => exact newMap H
  | some hv =>
    rename_i v v'
    show SV P B M w _ (mapA P t .fail fun _ _ => cond (isIntA v) (h.alloc (.map []) fun b h => .val (.mp b) h) .fail)
    rcases mapA_split (P := P) t OR.fail (fun _ _ => cond (isIntA v) (h.alloc (.map []) fun b h => .val (.mp b) h) .fail) with ⟨k, e, u, h1, h2, h3, e1⟩ | e1 <;> rw [e1]
    · cases hv with
      | int kd n =>
        show SV P B M w _ (h.alloc (.map []) fun b h => .val (.mp b) h)
        refine SV.of_eq' ?_ (newMap H)
        simp [Instr.makeMap, run_underlying h1, asInt, asIntOf]
      | _ => trivial
    · trivial

theorem lookup_sound (t : Nat) {x i : AV} {x' i' : Value} (ok : Bool) (hx : VRel M x x') (hi : VRel M i i') (H : HRel P B M h w) : SV P B M w (Instr.lookup t x' i' ok) (lookupOp P t x i ok h) := by
  unfold lookupOp
  rcases mapA_split (P := P) t OR.fail (lookIn P x i ok h) with ⟨k, e, u, h1, h2, h3, e1⟩ | e1
  case inr => rw [e1]; trivial
  rw [e1]
  obtain ⟨tl, htl⟩ : ∃ tl : Array MapEntry → Sem Value, tl = fun es => (do
    Instr.checkKey es.isEmpty 10000 k i'
    match ← Instr.findKey k i' es.toList with
    | some (_, v) => do
      let x ← pure (v, true)
      pure (if ok then .tuple #[x.1, .bool x.2] else x.1)
    | none => do
      let z ← zeroValue e
      let x ← pure (z, false)
      pure (if ok then .tuple #[x.1, .bool x.2] else x.1)) := ⟨_, rfl⟩
  have out : ∀ (v : AV) (v' : Value) (b : Bool), VRel M v v' → VRel M (cond ok (.tup [v, .bool b]) v) (if ok then .tuple #[v', .bool b] else v') := by
    intro v v' b hv
    cases ok with
    | true => exact .tup (.cons hv (.cons (.bool b) .nil))
    | false => exact hv
  have found : ∀ (es : Array MapEntry) (j : Nat) (v : AV) (v' : Value), (Instr.lookup t x' i' ok).run P w = (tl es).run P w → Instr.findNow u i' es.toList 0 = some (some (j, v')) → VRel M v v' → SV P B M w (Instr.lookup t x' i' ok) (.val (cond ok (.tup [v, .bool true]) v) h) := by
    intro es j v v' q1 q2 hv
    refine .here H ?_ (out v v' true hv)
    rw [q1, htl]
    dsimp only
    rw [Sem.run_bind, checkKey_run h2 h3, Result.andThen_ok, Sem.run_bind, findKey_run h2 q2, Result.andThen_ok]
    rfl
  have zero : ∀ es : Array MapEntry, (Instr.lookup t x' i' ok).run P w = (tl es).run P w → Instr.findNow u i' es.toList 0 = some none → SV P B M w (Instr.lookup t x' i' ok) (zeroA P e .fail fun z => .val (cond ok (.tup [z, .bool false]) z) h) := by
    intro es q1 q2
    rcases zeroA_split (P := P) e OR.fail (fun z => .val (cond ok (.tup [z, .bool false]) z) h) with ⟨inf, z, hi', hz, e2⟩ | e2 <;> rw [e2]
    · refine .here H ?_ (out _ z false (ofConst_rel z))
      rw [q1, htl]
      dsimp only
      rw [Sem.run_bind, checkKey_run h2 h3, Result.andThen_ok, Sem.run_bind, findKey_run h2 q2, Result.andThen_ok]
      dsimp only
      rw [Sem.run_bind, run_zero' hi' hz, Result.andThen_ok]
      rfl
    · trivial
  cases hx with
  | map0 =>
    refine zero #[] ?_ rfl
    rw [htl]
    unfold Instr.lookup
    rw [Sem.run_bind, run_underlying h1, Result.andThen_ok]
    rfl
  | mp hp =>
    rename_i b p
    show SV P B M w _ ((h.at_ b).elimMap .fail fun es => lookA u i es .fail (zeroA P e .fail fun z => .val (cond ok (.tup [z, .bool false]) z) h) fun v => .val (cond ok (.tup [v, .bool true]) v) h)
    cases hb : h.at_ b with
    | map es =>
      have hr := H.blk b p hp (by rw [hb]; simp)
      rw [hb] at hr
      obtain ⟨es', cl, q1, q2⟩ := hr
      have hget : (getObj p.cb).run P w = .ok (.map es' cl) w := by simp [getObj, Sem.run, q1]
      have hrun : (Instr.lookup t (.map (some p.cb)) i' ok).run P w = (tl es').run P w := by
        rw [htl]
        unfold Instr.lookup
        rw [Sem.run_bind, run_underlying h1, Result.andThen_ok]
        dsimp only
        rw [Sem.run_bind, hget, Result.andThen_ok]
        rfl
      show SV P B M w _ (lookA u i es .fail (zeroA P e .fail fun z => .val (cond ok (.tup [z, .bool false]) z) h) fun v => .val (cond ok (.tup [v, .bool true]) v) h)
      rcases lookA_split u hi OR.fail (zeroA P e .fail fun z => .val (cond ok (.tup [z, .bool false]) z) h) (fun v => .val (cond ok (.tup [v, .bool true]) v) h) q2 0 with ⟨j, v, v', k1, k2, k3⟩ | ⟨k1, k2⟩ | k2
      · rw [k3]; exact found es' j v v' hrun k1 k2
      · rw [k2]; exact zero es' hrun k1
      · rw [k2]; trivial
    | _ => trivial
  | _ => trivial
theorem mapUpdate_sound (t : Nat) {m k v : AV} {m' k' v' : Value} (hm : VRel M m m') (hk : VRel M k k') (hv : VRel M v v') (H : HRel P B M h w) : SU P B M w (Instr.mapUpdate t m' k' v') (mapUpdateOp P t m k v h) := by
  unfold mapUpdateOp
  rcases mapA_split (P := P) t OR.fail (updIn P m k v h) with ⟨kt, e, u, h1, h2, h3, e1⟩ | e1
  case inr => rw [e1]; trivial
  rw [e1]
  cases hm with
  | mp hp =>
    rename_i b p
    show SU P B M w _ (cond (Nat.blt b P.globals.size) .fail ((h.at_ b).elimMap .fail fun es => updA u k v es .fail fun es => .skip (h.put b (.map es))))
    rw [bltN]
    by_cases hg : b < P.globals.size
    · rw [decide_eq_true hg]; trivial
    rw [decide_eq_false hg, cond_false]
    cases hb : h.at_ b with
    | map es =>
      have hal : h.at_ b ≠ .none := by rw [hb]; simp
      have hr := H.blk b p hp hal
      rw [hb] at hr
      obtain ⟨es', cl, q1, q2⟩ := hr
      have hcb : p.cb < w.heap.size := (Array.getElem?_eq_some_iff.1 q1).1
      have hB : B.n ≤ p.cb := (H.own b p hp).resolve_left hg
      have hget : (getObj p.cb).run P w = .ok (.map es' cl) w := by simp [getObj, Sem.run, q1]
      have fin : ∀ (es₂ : List (AV × AV)) (o : Array MapEntry) (cl' : Nat), ERel M es₂ o.toList → (Instr.mapUpdate t (.map (some p.cb)) k' v').run P w = (setObj p.cb (.map o cl')).run P w → SU P B M w (Instr.mapUpdate t (.map (some p.cb)) k' v') (.skip (h.put b (.map es₂))) := by
        intro es₂ o cl' r1 r2
        have hset : (setObj p.cb (.map o cl')).run P w = .ok () { w with heap := w.heap.setIfInBounds p.cb (.map o cl') } := by simp [setObj, Sem.run, q1]
        refine ⟨M, _, r2.trans hset, Mp.le.refl M, ?_, ⟨rfl, rfl, rfl, by simp, fun k hk => Array.getElem?_setIfInBounds_ne (by omega)⟩⟩
        exact H.put (w' := { w with heap := w.heap.setIfInBounds p.cb (.map o cl') }) hp (by simp) (fun k hk => Array.getElem?_setIfInBounds_ne (Ne.symm hk)) hal (.map es₂) ⟨o, cl', by simp [hcb], r1⟩
      show SU P B M w _ (updA u k v es .fail fun es => .skip (h.put b (.map es)))
      rcases updA_split u hk hv cl OR.fail q2 0 (fun es => .skip (h.put b (.map es))) with ⟨i, j, e', u', es₂, k1, k2, k3, k4, k5, k6⟩ | ⟨es₂, k1, k2, k3⟩ | k3
      · rw [k6]
        have hij : i = j := by omega
        subst hij
        refine fin es₂ (es'.modify i fun e => { e with key := k', val := v' }) cl ?_ ?_
        · rw [Array.toList_modify]; exact k5
        · have hei : es'[i]? = some e' := by simpa using k3
          have hkey : (((es'[i]?).map (·.key)).getD k') = e'.key := by rw [hei]; rfl
          unfold Instr.mapUpdate
          rw [Sem.run_bind, run_underlying h1, Result.andThen_ok]
          dsimp only
          rw [Sem.run_bind, hget, Result.andThen_ok]
          dsimp only
          rw [Sem.run_bind, checkKey_run h2 h3, Result.andThen_ok, Sem.run_bind, findKey_run h2 k1, Result.andThen_ok]
          dsimp only
          rw [Sem.run_bind, hkey, sameNow_bits k4 h3, Result.andThen_ok]
      · rw [k3]
        refine fin es₂ (es'.push { key := k', val := v', born := cl }) (cl + 1) ?_ ?_
        · rw [Array.toList_push]; exact k2
        · unfold Instr.mapUpdate
          rw [Sem.run_bind, run_underlying h1, Result.andThen_ok]
          dsimp only
          rw [Sem.run_bind, hget, Result.andThen_ok]
          dsimp only
          rw [Sem.run_bind, checkKey_run h2 h3, Result.andThen_ok, Sem.run_bind, findKey_run h2 k1, Result.andThen_ok]
      · rw [k3]; trivial
    | _ => trivial
  | _ => trivial
end
end Go.Ev
namespace Go.Ev
open Go Go.RowKit
variable {α β : Type}
section
variable {P : Program} {B : Bd} {M : Mp} {h : AH} {w : World}

/-- What operands stand for, here and in the model. -/
def ORel (M : Mp) (τ : Tr AV) (ρ : Operand → Value) (x : Operand) : Prop := VRel M (evO x τ) (ρ x)
theorem mapL_rel {τ : Tr AV} {ρ : Operand → Value} : ∀ (l : List Operand), (∀ x ∈ l, ORel M τ ρ x) → LRel M (mapL τ l) (l.map ρ)
  | [], _ => .nil
  | x :: l, hl => .cons (hl x (by simp)) (mapL_rel l fun y hy => hl y (by simp [hy]))
theorem mapL_arr {τ : Tr AV} {ρ : Operand → Value} (l : Array Operand) (hl : ∀ x ∈ l, ORel M τ ρ x) : LRel M (mapL τ l.toList) (l.map ρ).toList := by
  rw [Array.toList_map]; exact mapL_rel _ fun x hx => hl x (Array.mem_toList_iff.1 hx)
theorem partsL_rel {τ : Tr AV} {ρ : Operand → Value} : ∀ (l : List (Nat × Operand)), (∀ x ∈ l, ORel M τ ρ x.2) → PRel M (partsL τ l) (l.map fun (i, x) => (i, ρ x))
  | [], _ => .nil
  | (i, x) :: l, hl => .cons (hl (i, x) (by simp)) (partsL_rel l fun y hy => hl y (by simp [hy]))
theorem optL_rel {τ : Tr AV} {ρ : Operand → Value} (o : Option Operand) (ho : ∀ x, o = some x → ORel M τ ρ x) : OpRel M (optL o τ) (o.map ρ) := by
  cases o with
  | none => exact .none
  | some x => exact .some (ho x rfl)

theorem SV.of_eq {s s' : Sem Value} {r : OR} (e : s.run P w = s'.run P w) (hs : SV P B M w s' r) : SV P B M w s r := by
  cases r with
  | val v h' => obtain ⟨M', v', w', h1, h2⟩ := hs; exact ⟨M', v', w', e.trans h1, h2⟩
  | fail => trivial
  | _ => exact hs.elim

theorem ts_get {ts : Array Nat} {i : Nat} {d : β} {f : Nat → β} {r : β} (hr : (Option.rec (motive := fun _ => β) d f (nth none (ts.toList.map some) i) : β) = r) : (∃ t, ts[i]? = some t ∧ f t = r) ∨ d = r := by
  rw [nth_eq] at hr
  cases hi : ts[i]? with
  | none =>
    right
    have : (ts.toList.map some).getD i none = (none : Option Nat) := by simp [List.getD, hi]
    rw [this] at hr; exact hr
  | some t =>
    left
    have : (ts.toList.map some).getD i none = some t := by simp [List.getD, hi]
    rw [this] at hr; exact ⟨t, rfl, hr⟩

theorem arg1_split {args : List AV} {args' : Array Value} (hl : LRel M args args'.toList) (f : AV → OR) : (∃ x y, VRel M x y ∧ args' = #[y] ∧ arg1 args f = f x) ∨ arg1 args f = .fail := by
  obtain ⟨l⟩ := args'
  cases hl with
  | nil => right; rfl
  | cons hx ht => cases ht with
    | nil => left; exact ⟨_, _, hx, rfl, rfl⟩
    | cons _ _ => right; rfl

theorem builtinOp_sound (b : Builtin) {ts : Array Nat} {ty : Nat} {cs : Array Bool} {args : List AV} {args' : Array Value} (hl : LRel M args args'.toList) (H : HRel P B M h w) :
    SN P B M w (builtin b ts ty cs args') (builtinOp P b ts.toList args h) := by
  cases b with
  | len =>
    rcases arg1_split hl (fun x => Option.rec (motive := fun _ => OR) .fail (fun t => lenOp P t x h) (nth none (ts.toList.map some) 0)) with ⟨x, y, hx, rfl, e⟩ | e
    · show SN P B M w (do pure (.value (← Builtin.len_ ts ty #[y]))) (arg1 args _)
      rw [e]
      rcases ts_get (ts := ts) (i := 0) (d := OR.fail) (f := fun t => lenOp P t x h) rfl with ⟨t, ht, e2⟩ | e2
      · rw [← e2]; exact (len_sound ht hx H).next
      · rw [← e2]; trivial
    · show SN P B M w _ (arg1 args _)
      rw [e]; trivial
  | cap =>
    rcases arg1_split hl (fun x => Option.rec (motive := fun _ => OR) .fail (fun t => capOp P t x h) (nth none (ts.toList.map some) 0)) with ⟨x, y, hx, rfl, e⟩ | e
    · show SN P B M w (do pure (.value (← Builtin.cap_ ts ty #[y]))) (arg1 args _)
      rw [e]
      rcases ts_get (ts := ts) (i := 0) (d := OR.fail) (f := fun t => capOp P t x h) rfl with ⟨t, ht, e2⟩ | e2
      · rw [← e2]; exact (cap_sound ht hx H).next
      · rw [← e2]; trivial
    · show SN P B M w _ (arg1 args _)
      rw [e]; trivial
  | append => exact (append_sound hl H).next
  | copy => exact (copy_sound hl H).next
  | min => exact (minMax_sound (ts := ts) (ty := ty) false hl H).next
  | max => exact (minMax_sound (ts := ts) (ty := ty) true hl H).next
  | panic =>
    rcases arg1_split hl (fun x => panicOp x h) with ⟨x, y, hx, rfl, e⟩ | e
    · show SN P B M w _ (arg1 args _)
      rw [e]; exact panic_sound hx H _ rfl
    · show SN P B M w _ (arg1 args _)
      rw [e]; trivial
  | recover => exact ⟨rfl, H⟩
  | unsafeSliceData =>
    rcases arg1_split hl (fun x => sliceDataOp x h) with ⟨x, y, hx, rfl, e⟩ | e
    · show SN P B M w (do pure (.value (← Builtin.unsafeSliceData_ ts ty #[y]))) (arg1 args _)
      rw [e]; exact (sliceData_sound hx H).next
    · show SN P B M w _ (arg1 args _)
      rw [e]; trivial
  | unsafeString =>
    obtain ⟨l⟩ := args'
    cases hl with
    | nil => trivial
    | cons hx ht => cases ht with
      | nil => trivial
      | cons hn ht => cases ht with
        | cons _ _ => trivial
        | nil =>
          rename_i x x' n n'
          show SN P B M w (do pure (.value (← Builtin.unsafeString_ ts ty #[x', n']))) (Option.rec (motive := fun _ => OR) .fail (fun t => unsafeStringOp P t x n h) (nth none (ts.toList.map some) 0))
          rcases ts_get (ts := ts) (i := 0) (d := OR.fail) (f := fun t => unsafeStringOp P t x n h) rfl with ⟨t, ht, e2⟩ | e2
          · rw [← e2]; exact (unsafeString_sound ht hx hn H).next
          · rw [← e2]; trivial
  | _ => trivial

theorem appL_eq' (a b : List α) : appL a b = a ++ b := by
  induction a with
  | nil => rfl
  | cons x a ih => exact congrArg (x :: ·) ih

theorem callOp_sound (c : Call) (ty : Nat) {τ : Tr AV} {ρ : Operand → Value} (hρ : ∀ x ∈ c.operands, ORel M τ ρ x) (H : HRel P B M h w) :
    SN P B M w (do let d ← resolve ρ c ty; invoke d.target d.args) (callOp P c τ h) := by
  obtain ⟨callee, args, ats⟩ := c
  have hargs : LRel M (mapL τ args.toList) (args.map ρ).toList := mapL_arr args fun x hx => hρ x (by simp [Call.operands, hx])
  cases callee with
  | invoke r m => trivial
  | builtin b => exact builtinOp_sound b hargs H
  | value f =>
    have hf : VRel M (evO f τ) (ρ f) := hρ f (by simp [Call.operands])
    show SN P B M w _ (callV (evO f τ) (mapL τ args.toList) h)
    unfold callV
    split
    · rename_i g first cap hx
      rw [hx] at hf
      obtain ⟨y, hy⟩ : ∃ y, ρ f = y := ⟨_, rfl⟩
      rw [hy] at hf
      cases hf with
      | func _ ha hc =>
        rename_i a' c'
        refine ⟨a' ++ args.map ρ ++ c', ?_, ?_, H⟩
        · simp only [resolve, hy, Deferred.ofValue, Sem.run_bind, Sem.run_pure, Result.andThen_ok, invoke]
        · rw [appL_eq', appL_eq', Array.toList_append, Array.toList_append, List.append_assoc]
          exact LRel.app (LRel.app hc hargs) ha
    · trivial

theorem deferOp_sound (c : Call) (ty : Nat) {τ : Tr AV} {ρ : Operand → Value} (hρ : ∀ x ∈ c.operands, ORel M τ ρ x) (H : HRel P B M h w) :
    SN P B M w (do pure (.defer (← resolve ρ c ty))) (deferOp c τ h) := by
  obtain ⟨callee, args, ats⟩ := c
  have hargs : LRel M (mapL τ args.toList) (args.map ρ).toList := mapL_arr args fun x hx => hρ x (by simp [Call.operands, hx])
  cases callee with
  | invoke r m => trivial
  | builtin b => trivial
  | value f =>
    have hf : VRel M (evO f τ) (ρ f) := hρ f (by simp [Call.operands])
    unfold deferOp
    dsimp only
    split
    · rename_i g first cap hx
      rw [hx] at hf
      obtain ⟨y, hy⟩ : ∃ y, ρ f = y := ⟨_, rfl⟩
      rw [hy] at hf
      cases hf with
      | func _ ha hc =>
        rename_i a' c'
        refine ⟨c', a' ++ args.map ρ, ?_, ?_, H⟩
        · simp only [resolve, hy, Deferred.ofValue, Sem.run_bind, Sem.run_pure, Result.andThen_ok]
        · show LRel M (appL first (appL (mapL τ args.toList) cap)) _
          rw [appL_eq', appL_eq', Array.toList_append, Array.toList_append, List.append_assoc]
          exact LRel.app (LRel.app hc hargs) ha
    · trivial

theorem SV.val {v : AV} {v' : Value} (H : HRel P B M h w) (hv : VRel M v v') : SN P B M w (pure (.value v')) (.val v h) :=
  ⟨M, v', w, rfl, Mp.le.refl M, hv, H, Below.refl B.n w⟩

/-- **Every operation.** -/
theorem opF_sound (o : Oper) {τ : Tr AV} {ρ : Operand → Value} (hρ : ∀ x ∈ o.op.operands, ORel M τ ρ x) (H : HRel P B M h w) :
    SN P B M w (execOp ρ o) (opF P o.op τ h) := by
  obtain ⟨dst, op, type, pos, after, guard⟩ := o
  dsimp only at hρ ⊢
  cases op with
  | move x => exact SV.val H (hρ x (by simp [Op.operands]))
  | assign x => exact SV.val H (hρ x (by simp [Op.operands]))
  | pick c a b =>
    have hc : VRel M (evO c τ) (ρ c) := hρ c (by simp [Op.operands])
    have ha : VRel M (evO a τ) (ρ a) := hρ a (by simp [Op.operands])
    have hb : VRel M (evO b τ) (ρ b) := hρ b (by simp [Op.operands])
    show SN P B M w (do pure (.value (if ← asBool (ρ c) then ρ a else ρ b))) ((evO c τ).elimBool .fail fun t => cond t (.val (evO a τ) h) (.val (evO b τ) h))
    obtain ⟨y, hy⟩ : ∃ y, ρ c = y := ⟨_, rfl⟩
    obtain ⟨x, hx⟩ : ∃ x, evO c τ = x := ⟨_, rfl⟩
    rw [hy, hx] at hc
    rw [hy, hx]
    cases hc with
    | bool t =>
      cases t with
      | true => exact SV.val H ha
      | false => exact SV.val H hb
    | _ => trivial
  | alloc t => exact (alloc_sound t (.tuple #[]) H).next
  | box t x => exact (box_sound t (hρ x (by simp [Op.operands])) H).next
  | build t ps =>
    refine (build_sound t ?_ H).next
    rw [Array.toList_map]
    exact partsL_rel _ fun x hx => hρ x.2 (by simp only [Op.operands, List.mem_toArray, List.mem_map]; exact ⟨x, hx, rfl⟩)
  | buildSlice t n ps =>
    refine (buildSlice_sound t n ?_ H).next
    rw [Array.toList_map]
    exact partsL_rel _ fun x hx => hρ x.2 (by simp only [Op.operands, List.mem_toArray, List.mem_map]; exact ⟨x, hx, rfl⟩)
  | insert t m k v => exact (mapUpdate_sound t (hρ m (by simp [Op.operands])) (hρ k (by simp [Op.operands])) (hρ v (by simp [Op.operands])) H).next
  | mapUpdate t m k v => exact (mapUpdate_sound t (hρ m (by simp [Op.operands])) (hρ k (by simp [Op.operands])) (hρ v (by simp [Op.operands])) H).next
  | makeMap t r => exact (makeMap_sound t (optL_rel r fun y hy => hρ y (by simp [Op.operands, hy])) H).next
  | lookup t x i ok => exact (lookup_sound t ok (hρ x (by simp [Op.operands])) (hρ i (by simp [Op.operands])) H).next
  | load t a => exact (load_sound t (hρ a (by simp [Op.operands])) H).next
  | store t a v => exact (store_sound t (hρ a (by simp [Op.operands])) (hρ v (by simp [Op.operands])) H).next
  | nilCheck x => exact nilCheck_sound (o := ⟨dst, .nilCheck x, type, pos, after, guard⟩) rfl (hρ x (by simp [Op.operands])) H
  | binOp op t x y u => exact (binV_sound op (hρ x (by simp [Op.operands])) (hρ y (by simp [Op.operands])) H).next
  | unOp op t x => exact (unV_sound op (hρ x (by simp [Op.operands])) H).next
  | convert s d x => exact (conv_sound s d (hρ x (by simp [Op.operands])) H).next
  | makeInterface t x => exact (makeIfc_sound t (hρ x (by simp [Op.operands])) H).next
  | makeFunc fn a c =>
    exact SV.val H (.func fn (mapL_arr a fun x hx => hρ x (by simp [Op.operands, hx])) (mapL_arr c fun x hx => hρ x (by simp [Op.operands, hx])))
  | makeSlice t n c => exact (makeSlice_sound t (hρ n (by simp [Op.operands])) (hρ c (by simp [Op.operands])) H).next
  | slice t x a b c =>
    exact (slice_sound t (hρ x (by simp [Op.operands])) (optL_rel a fun y hy => hρ y (by simp [Op.operands, hy])) (optL_rel b fun y hy => hρ y (by simp [Op.operands, hy])) (optL_rel c fun y hy => hρ y (by simp [Op.operands, hy])) H).next
  | fieldAddr t x f => exact (fieldAddr_sound t f (hρ x (by simp [Op.operands])) H).next
  | field t x f => exact (field_sound t f (hρ x (by simp [Op.operands])) H).next
  | indexAddr t x i => exact (indexAddr_sound t (hρ x (by simp [Op.operands])) (hρ i (by simp [Op.operands])) H).next
  | index t x i => exact (index_sound t (hρ x (by simp [Op.operands])) (hρ i (by simp [Op.operands])) H).next
  | range t x => exact (range_sound t (hρ x (by simp [Op.operands])) H).next
  | next x s => exact (next_sound s type (hρ x (by simp [Op.operands])) H).next
  | extract x i => exact (extract_sound i (hρ x (by simp [Op.operands])) H).next
  | call c => exact callOp_sound c type (fun x hx => hρ x (by simpa [Op.operands] using hx)) H
  | defer c => exact deferOp_sound c type (fun x hx => hρ x (by simpa [Op.operands] using hx)) H
  | panic x => exact panic_sound (hρ x (by simp [Op.operands])) H _ rfl
  | _ => trivial
end
end Go.Ev
namespace Go.Ev
open Go
variable {α β : Type}
section
variable (P : Program)
inductive XR where
  | norm (τ : Tr AV) (ds : List ADef) (h : AH)
  | exit (id : Nat) (τ : Tr AV) (ds : List ADef) (h : AH)
  | goto (l : Nat) (τ : Tr AV) (ds : List ADef) (h : AH)
  | ret (τ : Tr AV) (ds : List ADef) (h : AH)
  | pan (v : AV) (τ : Tr AV) (ds : List ADef) (h : AH)
  | fail
inductive CR where
  | ret (v : AV) (h : AH)
  | pan (v : AV) (h : AH)
  | fail
abbrev CallF := Nat → List AV → AH → CR
abbrev CodeF := Tr AV → List ADef → AH → XR
/-- A step of a region whose order is drawn: an operation that reads; one that acts, and those that are looked at again behind it. -/
inductive PSt where
  | rd (i : Nat)
  | eff (i : Nat) (chk : List Nat)

noncomputable def putT (dst : Option Tmp) (v : AV) (τ : Tr AV) : Tr AV := Option.rec (motive := fun _ => Tr AV) τ (fun d => τ.set .junk v (toP d)) dst
noncomputable def callR (dst : Option Tmp) (k : CodeF) (τ : Tr AV) (ds : List ADef) (r : CR) : XR :=
  CR.rec (motive := fun _ => XR) (fun v h => k (putT dst v τ) ds h) (fun v h => .pan v τ ds h) .fail r
noncomputable def orK (call : CallF) (dst : Option Tmp) (k : CodeF) (τ : Tr AV) (ds : List ADef) (r : OR) : XR :=
  OR.rec (motive := fun _ => XR) (fun v h => k (putT dst v τ) ds h) (fun h => k (putT dst (.tup []) τ) ds h)
    (fun f args h => callR dst k τ ds (call f args h)) (fun d h => k (putT dst (.tup []) τ) (d :: ds) h) (fun v h => .pan v τ ds h) (fun _ => .fail) .fail r
noncomputable def dstOf (o : Oper) : Option Tmp := Oper.rec (motive := fun _ => Option Tmp) (fun d _ _ _ _ _ => d) o
noncomputable def nthK (l : List α) (n : Nat) (d : β) (k : α → β) : β :=
  List.rec (motive := fun _ => Nat → β) (fun _ => d) (fun x _ ih n => Nat.rec (motive := fun _ => β) (k x) (fun m _ => ih m) n) l n
/-- Is the operation wanted? -/
noncomputable def wantedA (all : List Oper) (g : Option (Nat × Bool)) (τ : Tr AV) (d yes no : β) : β :=
  Option.rec (motive := fun _ => β) yes (fun jw => nthK all jw.1 d fun o => Option.rec (motive := fun _ => β) d (fun t => (τ.get .junk (toP t)).elimBool d fun b => cond (eqB b jw.2) yes no) (dstOf o)) g
where eqB (a b : Bool) : Bool := cond a b (cond b false true)
noncomputable def stepO (call : CallF) (all : List Oper) (o : Oper) (k : CodeF) (τ : Tr AV) (ds : List ADef) (h : AH) : XR :=
  Oper.rec (motive := fun _ => XR) (fun dst op _ _ _ g => wantedA all g τ .fail (orK call dst k τ ds (opF P op τ h)) (k (putT dst (.tup []) τ) ds h)) o
noncomputable def runOps (call : CallF) (all : List Oper) (l : List Oper) : CodeF :=
  List.rec (motive := fun _ => CodeF) .norm (fun o _ ih τ ds h => stepO P call all o ih τ ds h) l

/-! ### Regions whose order is drawn -/
noncomputable def valK (r : OR) (d : β) (k : AV → β) : β := OR.rec (motive := fun _ => β) (fun v _ => k v) (fun _ => d) (fun _ _ _ => d) (fun _ _ => d) (fun _ _ => d) (fun _ => d) d r
noncomputable def readV (all : List Oper) (o : Oper) (τ : Tr AV) (h : AH) (d : β) (k : AV → β) : β :=
  Oper.rec (motive := fun _ => β) (fun _ op _ _ _ g => wantedA all g τ d (valK (opF P op τ h) d k) (k (.tup []))) o
noncomputable def sameA (a b : AV) : Bool :=
  match a, b with
  | .bool x, .bool y => wantedA.eqB x y
  | .int k x, .int k' y => cond (Nat.beq (kIdx k) (kIdx k')) (eqI x y) false
  | .str x, .str y => eqL x y
  | .ptr0, .ptr0 => true
  | .ptr b o, .ptr b' o' => cond (Nat.beq b b') (Nat.beq o o') false
  | .sl0, .sl0 => true
  | .sl b o n c, .sl b' o' n' c' => cond (Nat.beq b b') (cond (Nat.beq o o') (cond (Nat.beq n n') (match c, c' with | none, none => true | some c, some c' => Nat.beq c c' | _, _ => false) false) false) false
  | .map0, .map0 => true
  | .mp b, .mp b' => Nat.beq b b'
  | .func0, .func0 => true
  | .ifc0, .ifc0 => true
  | .tup [], .tup [] => true
  | _, _ => false
noncomputable def sameL (a b : List AV) : Bool :=
  List.rec (motive := fun _ => List AV → Bool) (fun b => match b with | [] => true | _ => false) (fun x _ ih b => match b with | y :: t => cond (sameA x y) (ih t) false | [] => false) a b
/-- The same but for aggregates in aggregates. -/
noncomputable def sameV (a b : AV) : Bool :=
  match a, b with
  | .agg x, .agg y => sameL x y
  | .tup x, .tup y => sameL x y
  | a, b => sameA a b
noncomputable def sameD (dst : Option Tmp) (v : AV) (τ : Tr AV) : Bool := Option.rec (motive := fun _ => Bool) true (fun d => sameV v (τ.get .junk (toP d))) dst
noncomputable def recheck (all : List Oper) (chk : List Nat) (τ : Tr AV) (h : AH) : Bool :=
  allL (fun j => nthK all j false fun o => readV P all o τ h false fun v => sameD (dstOf o) v τ) chk
noncomputable def effK (call : CallF) (all : List Oper) (chk : List Nat) (k : CodeF) (o : Oper) (τ : Tr AV) (ds : List ADef) (h : AH) : XR :=
  Oper.rec (motive := fun _ => XR) (fun dst op _ _ _ g => wantedA all g τ .fail
    (OR.rec (motive := fun _ => XR) (fun v h => go dst ds v h) (fun h => go dst ds (.tup []) h)
      (fun f args h => CR.rec (motive := fun _ => XR) (fun v h => go dst ds v h) (fun _ _ => .fail) .fail (call f args h)) (fun _ _ => .fail) (fun _ _ => .fail) (fun _ => .fail) .fail (opF P op τ h))
    (go dst ds (.tup []) h)) o
where go (dst : Option Tmp) (ds : List ADef) (v : AV) (h : AH) : XR := cond (recheck P all chk (putT dst v τ) h) (k (putT dst v τ) ds h) .fail
noncomputable def runPlan (call : CallF) (all : List Oper) (l : List PSt) : CodeF :=
  List.rec (motive := fun _ => CodeF) .norm (fun s _ ih τ ds h =>
    PSt.rec (motive := fun _ => XR) (fun i => nthK all i .fail fun o => readV P all o τ h .fail fun v => ih (putT (dstOf o) v τ) ds h)
      (fun i chk => nthK all i .fail fun o => effK P call all chk ih o τ ds h) s) l

/-! ### Code -/
noncomputable def seqC (b : CodeF) (r : XR) : XR := XR.rec (motive := fun _ => XR) b .exit .goto .ret .pan .fail r
noncomputable def blockC (id : Nat) (r : XR) : XR := XR.rec (motive := fun _ => XR) .norm (fun i τ ds h => cond (Nat.beq i id) (.norm τ ds h) (.exit i τ ds h)) .goto .ret .pan .fail r
noncomputable def scopeC (r : XR) : XR := XR.rec (motive := fun _ => XR) .norm .exit (fun _ _ _ _ => .fail) .ret .pan .fail r
noncomputable def loopN (b : CodeF) (n : Nat) : CodeF := Nat.rec (motive := fun _ => CodeF) (fun _ _ _ => .fail) (fun _ ih τ ds h => seqC ih (b τ ds h)) n
noncomputable def condC (c : Operand) (x y : CodeF) : CodeF := fun τ ds h => (evO c τ).elimBool .fail fun b => cond b (x τ ds h) (y τ ds h)
noncomputable def codeF (pl : Nat → List PSt) (call : CallF) (N : Nat) (c : Code) : CodeF :=
  Code.rec (motive := fun _ => CodeF) .norm (fun id ops d => cond d (runPlan P call ops.toList (pl id)) (runOps P call ops.toList ops.toList)) (fun _ _ x y τ ds h => seqC y (x τ ds h)) (fun c _ _ x y => condC c x y)
    (fun id _ x τ ds h => blockC id (x τ ds h)) (fun _ x => loopN x N) (fun _ _ _ _ _ _ _ _ _ => .fail) (fun id => .exit id) (fun _ x τ ds h => scopeC (x τ ds h)) (fun _ => .norm) (fun l => .goto l) .ret (fun _ _ _ _ => .fail) c

noncomputable def resV (τ : Tr AV) (h : AH) (r : ResultVar) (d : β) (k : AV → β) : β :=
  ResultVar.rec (motive := fun _ => β) (fun t => k (τ.get .junk (toP t))) (fun a t => loadV P t (τ.get .junk (toP a)) h d k) r
noncomputable def resL (τ : Tr AV) (h : AH) (l : List ResultVar) : Option (List AV) :=
  List.rec (motive := fun _ => Option (List AV)) (some []) (fun r _ ih => resV P τ h r none fun v => Option.rec (motive := fun _ => Option (List AV)) none (fun l => some (v :: l)) ih) l
noncomputable def resC (τ : Tr AV) (h : AH) (l : List ResultVar) : CR :=
  Option.rec (motive := fun _ => CR) .fail (fun vs => List.rec (motive := fun _ => CR) (.ret (.tup []) h) (fun v t _ => List.rec (motive := fun _ => CR) (.ret v h) (fun _ _ _ => .ret (.tup vs) h) t) vs) (resL P τ h l)
noncomputable def noDef (ds : List ADef) (k : CR) : CR := List.rec (motive := fun _ => CR) k (fun _ _ _ => .fail) ds
noncomputable def leaveC (rs : List ResultVar) (r : XR) : CR :=
  XR.rec (motive := fun _ => CR) (fun τ ds h => noDef ds (resC P τ h rs)) (fun _ _ _ _ => .fail) (fun _ _ _ _ => .fail)
    (fun τ ds h => noDef ds (resC P τ h rs)) (fun v _ ds h => noDef ds (.pan v h)) .fail r
noncomputable def evalF (pl : Nat → Nat → List PSt) (orc : Nat → Option (List AV → AH → CR)) (N : Nat) (fuel : Nat) : CallF :=
  Nat.rec (motive := fun _ => CallF) (fun _ _ _ => .fail)
    (fun _ ih f args h => Option.rec (motive := fun _ => CR)
      (Option.rec (motive := fun _ => CR) .fail (fun fn => Option.rec (motive := fun _ => CR) .fail (fun c => leaveC P fn.results.toList (codeF P (pl f) ih N c (putL args 0 .nil) [] h)) fn.body) (P.funcs[f]?))
      (fun g => g args h) (orc f)) fuel
end
end Go.Ev
