/- Slices, bytes, conversions, rows. -/
import Derived.Test.YtgfdfmgocijdgaaGreatDoorEv3
import Derived.Laws.BytesString
import Derived.Lib.ConvBytes
namespace Go.Ev
open Go Go.RowKit
variable {α β : Type}
section
variable {P : Program} {B : Bd} {M : Mp} {w : World} {h : AH}

inductive OpRel (M : Mp) : Option AV → Option Value → Prop
  | none : OpRel M none none
  | some {v : AV} {v' : Value} (h : VRel M v v') : OpRel M (some v) (some v')

theorem run_bound (k : IntKind) (n y : Nat) (code : BoundsCode) (h : n ≤ y) (w : World) : (Instr.sliceBound (.int k (Int.ofNat n)) y code).run P w = .ok n w := by
  have hc : (0 : Int) ≤ Int.ofNat n ∧ Int.ofNat n ≤ (y : Int) := ⟨by simp, by simpa using h⟩
  have ht : (Int.ofNat n).toNat = n := rfl
  simp only [Instr.sliceBound, asIntOf, Sem.run_bind, Sem.run_pure, Result.andThen_ok, hc, and_self, if_true, ht]
theorem bound_split {x : Option AV} {x' : Option Value} (hx : OpRel M x x') (d0 : Nat) (d : β) (f : Nat → β) :
    (x = none ∧ x' = none ∧ bound x d0 d f = f d0) ∨ (∃ k n, x' = some (.int k (Int.ofNat n)) ∧ bound x d0 d f = f n) ∨ bound x d0 d f = d := by
  cases hx with
  | none => exact .inl ⟨rfl, rfl, rfl⟩
  | some hv =>
    rcases natA_split hv d f with ⟨k, n, rfl, rfl, e⟩ | e
    · exact .inr (.inl ⟨k, n, rfl, e⟩)
    · exact .inr (.inr e)
/-- What is written of the three bounds, and what they come to. -/
def BF (lo' hi' mx' : Option Value) (n a b m : Nat) : Prop :=
  (lo' = none ∧ a = 0 ∨ ∃ k, lo' = some (.int k (Int.ofNat a))) ∧ (hi' = none ∧ mx' = none ∧ b = n ∨ ∃ k, hi' = some (.int k (Int.ofNat b))) ∧ (mx' = none ∨ ∃ k, mx' = some (.int k (Int.ofNat m)))
theorem run_bounds {lo' hi' mx' : Option Value} {n a b m : Nat} (hf : BF lo' hi' mx' n a b m) (isS : Bool) (c m' : Nat) (hab : a ≤ b) (hbm : b ≤ m') (hm : mx' = none ∧ m' = c ∨ mx' ≠ none ∧ m' = m ∧ m ≤ c) (w : World) :
    (Instr.sliceBounds isS n c lo' hi' mx').run P w = .ok (a, b, m') w := by
  obtain ⟨hl, hh, hx⟩ := hf
  rcases hm with ⟨rfl, rfl⟩ | ⟨hne, rfl, hmc⟩
  · rcases hh with ⟨rfl, _, rfl⟩ | ⟨kh, rfl⟩
    · rcases hl with ⟨rfl, rfl⟩ | ⟨kl, rfl⟩
      · simp [Instr.sliceBounds]
      · simp only [Instr.sliceBounds, Sem.run_bind, Sem.run_pure, Result.andThen_ok, run_bound kl a b _ hab w]
    · rcases hl with ⟨rfl, rfl⟩ | ⟨kl, rfl⟩
      · simp only [Instr.sliceBounds, Sem.run_bind, Sem.run_pure, Result.andThen_ok, run_bound kh b m' _ hbm w]
      · simp only [Instr.sliceBounds, Sem.run_bind, Sem.run_pure, Result.andThen_ok, run_bound kh b m' _ hbm w, run_bound kl a b _ hab w]
  · rcases hx with rfl | ⟨km, rfl⟩
    · exact absurd rfl hne
    · rcases hh with ⟨_, e, _⟩ | ⟨kh, rfl⟩
      · cases e
      · rcases hl with ⟨rfl, rfl⟩ | ⟨kl, rfl⟩
        · simp only [Instr.sliceBounds, Sem.run_bind, Sem.run_pure, Result.andThen_ok, run_bound km m' c _ hmc w, run_bound kh b m' _ hbm w]
        · simp only [Instr.sliceBounds, Sem.run_bind, Sem.run_pure, Result.andThen_ok, run_bound km m' c _ hmc w, run_bound kh b m' _ hbm w, run_bound kl a b _ hab w]
theorem low_split {lo : Option AV} {lo' : Option Value} (hlo : OpRel M lo lo') (b m : Nat) (d : β) (k : Nat → Nat → Nat → β) :
    (∃ a, (lo' = none ∧ a = 0 ∨ ∃ k, lo' = some (.int k (Int.ofNat a))) ∧ a ≤ b ∧ (bound lo 0 d fun a => cond (Nat.ble a b) (k a b m) d) = k a b m) ∨ (bound lo 0 d fun a => cond (Nat.ble a b) (k a b m) d) = d := by
  rcases bound_split hlo 0 d (fun a => cond (Nat.ble a b) (k a b m) d) with ⟨rfl, rfl, e⟩ | ⟨kk, a, rfl, e⟩ | e <;> rw [e]
  · rw [bleN, decide_eq_true (Nat.zero_le b), cond_true]
    exact .inl ⟨0, .inl ⟨rfl, rfl⟩, by omega, rfl⟩
  · rw [bleN]
    by_cases hab : a ≤ b
    · rw [decide_eq_true hab, cond_true]; exact .inl ⟨a, .inr ⟨kk, rfl⟩, hab, rfl⟩
    · rw [decide_eq_false hab]; exact .inr rfl
  · exact .inr rfl
theorem bounds_none {lo hi : Option AV} {lo' hi' : Option Value} (hlo : OpRel M lo lo') (hhi : OpRel M hi hi') (n c : Nat) (hnc : n ≤ c) (d : β) (k : Nat → Nat → Nat → β) :
    (∃ a b, BF lo' hi' none n a b c ∧ a ≤ b ∧ b ≤ c ∧ bounds3 n c lo hi none d k = k a b c) ∨ bounds3 n c lo hi none d k = d := by
  have e0 : bounds3 n c lo hi none d k = bound hi n d fun b => cond (Nat.ble b c) (bound lo 0 d fun a => cond (Nat.ble a b) (k a b c) d) d := rfl
  rw [e0]
  rcases bound_split hhi n d (fun b => cond (Nat.ble b c) (bound lo 0 d fun a => cond (Nat.ble a b) (k a b c) d) d) with ⟨rfl, rfl, e⟩ | ⟨kk, b, rfl, e⟩ | e <;> rw [e]
  · rw [bleN, decide_eq_true hnc, cond_true]
    rcases low_split hlo n c d k with ⟨a, hl, hab, e⟩ | e <;> rw [e]
    · exact .inl ⟨a, n, ⟨hl, .inl ⟨rfl, rfl, rfl⟩, .inl rfl⟩, hab, hnc, rfl⟩
    · exact .inr rfl
  · rw [bleN]
    by_cases hbc : b ≤ c
    · rw [decide_eq_true hbc, cond_true]
      rcases low_split hlo b c d k with ⟨a, hl, hab, e⟩ | e <;> rw [e]
      · exact .inl ⟨a, b, ⟨hl, .inr ⟨kk, rfl⟩, .inl rfl⟩, hab, hbc, rfl⟩
      · exact .inr rfl
    · rw [decide_eq_false hbc]; exact .inr rfl
  · exact .inr rfl
theorem bounds_some {lo hi : Option AV} {mv : AV} {lo' hi' : Option Value} {mv' : Value} (hlo : OpRel M lo lo') (hhi : OpRel M hi hi') (hmx : VRel M mv mv') (n c : Nat) (d : β) (k : Nat → Nat → Nat → β) :
    (∃ a b m, BF lo' hi' (some mv') n a b m ∧ a ≤ b ∧ b ≤ m ∧ m ≤ c ∧ bounds3 n c lo hi (some mv) d k = k a b m) ∨ bounds3 n c lo hi (some mv) d k = d := by
  have e0 : bounds3 n c lo hi (some mv) d k = natA mv d fun m => cond (Nat.ble m c) (Option.rec (motive := fun _ => β) d (fun b => natA b d fun b => cond (Nat.ble b m) (bound lo 0 d fun a => cond (Nat.ble a b) (k a b m) d) d) hi) d := rfl
  rw [e0]
  rcases natA_split hmx d (fun m => cond (Nat.ble m c) (Option.rec (motive := fun _ => β) d (fun b => natA b d fun b => cond (Nat.ble b m) (bound lo 0 d fun a => cond (Nat.ble a b) (k a b m) d) d) hi) d) with ⟨km, m, rfl, rfl, e⟩ | e <;> rw [e]
  · rw [bleN]
    by_cases hmc : m ≤ c
    · rw [decide_eq_true hmc, cond_true]
      cases hhi with
      | none => exact .inr rfl
      | some hb =>
        rename_i bv bv'
        have e1 : (Option.rec (motive := fun _ => β) d (fun b => natA b d fun b => cond (Nat.ble b m) (bound lo 0 d fun a => cond (Nat.ble a b) (k a b m) d) d) (some bv)) = natA bv d fun b => cond (Nat.ble b m) (bound lo 0 d fun a => cond (Nat.ble a b) (k a b m) d) d := rfl
        rw [e1]
        rcases natA_split hb d (fun b => cond (Nat.ble b m) (bound lo 0 d fun a => cond (Nat.ble a b) (k a b m) d) d) with ⟨kb, b, rfl, rfl, e⟩ | e <;> rw [e]
        · rw [bleN]
          by_cases hbm : b ≤ m
          · rw [decide_eq_true hbm, cond_true]
            rcases low_split hlo b m d k with ⟨a, hl, hab, e⟩ | e <;> rw [e]
            · exact .inl ⟨a, b, m, ⟨hl, .inr ⟨kb, rfl⟩, .inr ⟨km, rfl⟩⟩, hab, hbm, hmc, rfl⟩
            · exact .inr rfl
          · rw [decide_eq_false hbm]; exact .inr rfl
        · exact .inr rfl
    · rw [decide_eq_false hmc]; exact .inr rfl
  · exact .inr rfl
/-- Both in one: of a row with room for c, or for c' or more if that isn't known. -/
theorem bounds_split {lo hi mx : Option AV} {lo' hi' mx' : Option Value} (hlo : OpRel M lo lo') (hhi : OpRel M hi hi') (hmx : OpRel M mx mx') (isS : Bool) (n c : Nat) (hnc : n ≤ c) (d : β) (k : Nat → Nat → Nat → β) (w : World) :
    (∃ a b m, (Instr.sliceBounds isS n c lo' hi' mx').run P w = .ok (a, b, m) w ∧ a ≤ b ∧ b ≤ m ∧ m ≤ c ∧ bounds3 n c lo hi mx d k = k a b m) ∨ bounds3 n c lo hi mx d k = d := by
  cases hmx with
  | none =>
    rcases bounds_none hlo hhi n c hnc d k with ⟨a, b, hf, hab, hbc, e⟩ | e
    · exact .inl ⟨a, b, c, run_bounds hf isS c c hab hbc (.inl ⟨rfl, rfl⟩) w, hab, hbc, Nat.le_refl _, e⟩
    · exact .inr e
  | some hv =>
    rcases bounds_some hlo hhi hv n c d k with ⟨a, b, m, hf, hab, hbm, hmc, e⟩ | e
    · exact .inl ⟨a, b, m, run_bounds hf isS c m hab hbm (.inr ⟨by simp, rfl, hmc⟩) w, hab, hbm, hmc, e⟩
    · exact .inr e

theorem natsOf_extract (s : ByteArray) (a b : Nat) : natsOf (s.extract a b) = ((natsOf s).drop a).take (b - a) := by
  unfold natsOf
  have : (s.extract a b).data.toList = (s.data.toList.drop a).take (b - a) := by
    rw [ByteArray.data_extract, Array.toList_extract, List.extract_eq_take_drop]
  rw [this, List.map_take, List.map_drop]
theorem slice_sound (t : Nat) {x : AV} {y : Value} {lo hi mx : Option AV} {lo' hi' mx' : Option Value} (hx : VRel M x y) (hlo : OpRel M lo lo') (hhi : OpRel M hi hi') (hmx : OpRel M mx mx') (H : HRel P B M h w) :
    SV P B M w (Instr.sliceAt t y lo' hi' mx') (sliceOp P t x lo hi mx h) := by
  unfold sliceOp
  split
  · rename_i hu
    unfold sliceStr
    cases hmx with
    | some _ => trivial
    | none =>
      show SV P B M w _ (x.elimStr .fail fun l => bounds3 (lenL l) (lenL l) lo hi none .fail fun a b _ => .val (.str (takeL (Nat.sub b a) (dropL a l))) h)
      rcases str_split hx OR.fail (fun l => bounds3 (lenL l) (lenL l) lo hi none .fail fun a b _ => .val (.str (takeL (Nat.sub b a) (dropL a l))) h) with ⟨s, rfl, rfl, e⟩ | e <;> rw [e]
      · rw [lenL_eq, natsOf_size]
        rcases bounds_split (P := P) hlo hhi (OpRel.none (M := M)) false s.size s.size (Nat.le_refl _) OR.fail (fun a b _ => .val (.str (takeL (Nat.sub b a) (dropL a (natsOf s)))) h) w with ⟨a, b, m, hr, hab, hbm, hmc, e⟩ | e <;> rw [e]
        · rw [takeL_eq, dropL_eq]
          have := natsOf_extract s a b
          refine .here H (v' := .string (s.extract a b)) ?_ (by rw [show Nat.sub b a = b - a from rfl, ← this]; exact .str _)
          simp [Instr.sliceAt, Instr.slice, run_underlying hu, hr]
        · trivial
      · trivial
  · rename_i e hu
    unfold sliceSl
    rcases sl_split hx OR.fail (sizeA P e .fail fun _ => bounds3 0 0 lo hi mx .fail fun _ _ _ => .val .sl0 h)
      (fun id o n cap => sizeA P e .fail fun s => Option.rec (motive := fun _ => OR)
        (Option.rec (motive := fun _ => OR) ((h.at_ id).elimCells .fail fun _ _ e' _ => cond (Nat.beq e' e) (bounds3 n n lo hi none .fail fun a b _ => fN (Nat.add o (Nat.mul a s)) fun o => fN (Nat.sub b a) fun n => .val (.sl id o n none) h) .fail)
          (fun m => bounds3 n n lo hi (some m) .fail fun a b m => fN (Nat.add o (Nat.mul a s)) fun o => fN (Nat.sub b a) fun n => .val (.sl id o n (some (Nat.sub m a))) h) mx)
        (fun c => bounds3 n c lo hi mx .fail fun a b m => fN (Nat.add o (Nat.mul a s)) fun o => fN (Nat.sub b a) fun n => .val (.sl id o n (some (Nat.sub m a))) h) cap)
      with ⟨rfl, rfl, e1⟩ | ⟨id, o, n, cap, p, ad, ccap, rfl, rfl, hp, hl, hm, hk, hA, hz, e1⟩ | e1 <;> rw [e1]
    · rcases sizeA_split (P := P) e OR.fail (fun _ => bounds3 0 0 lo hi mx .fail fun _ _ _ => .val .sl0 h) with ⟨i0, hi0, e1⟩ | e1 <;> rw [e1]
      · rcases bounds_split (P := P) hlo hhi hmx true 0 0 (Nat.le_refl _) OR.fail (fun _ _ _ => .val .sl0 h) w with ⟨a, b, m, hr, hab, hbm, hmc, e2⟩ | e2 <;> rw [e2]
        · have ea : a = 0 := by omega
          have eb : b = 0 := by omega
          have em : m = 0 := by omega
          subst ea eb em
          exact .here H (by simp [Instr.sliceAt, Instr.slice, run_underlying hu, hr, run_sizeOf' hi0]) .sl0
        · trivial
      · trivial
    · rcases sizeA_split (P := P) e OR.fail (fun s => Option.rec (motive := fun _ => OR)
        (Option.rec (motive := fun _ => OR) ((h.at_ id).elimCells .fail fun _ _ e' _ => cond (Nat.beq e' e) (bounds3 n n lo hi none .fail fun a b _ => fN (Nat.add o (Nat.mul a s)) fun o => fN (Nat.sub b a) fun n => .val (.sl id o n none) h) .fail)
          (fun m => bounds3 n n lo hi (some m) .fail fun a b m => fN (Nat.add o (Nat.mul a s)) fun o => fN (Nat.sub b a) fun n => .val (.sl id o n (some (Nat.sub m a))) h) mx)
        (fun c => bounds3 n c lo hi mx .fail fun a b m => fN (Nat.add o (Nat.mul a s)) fun o => fN (Nat.sub b a) fun n => .val (.sl id o n (some (Nat.sub m a))) h) cap) with ⟨i, hinf, e2⟩ | e2 <;> rw [e2]
      · -- what the model answers, from its bounds
        have fin : ∀ a b m' : Nat, (Instr.sliceBounds true n ccap lo' hi' mx').run P w = .ok (a, b, m') w →
            (Instr.sliceAt t (.slice (some ad) n ccap) lo' hi' mx').run P w = .ok (.slice (some (if m' = a then ad else ad.add (a * i.size))) (b - a) (m' - a)) w := by
          intro a b m' hr
          simp only [Instr.sliceAt, Instr.slice, Sem.run_bind, run_underlying hu, Result.andThen_ok, hr, run_sizeOf' hinf, Sem.run_pure]
          split <;> rfl
        have place : ∀ a m' : Nat, m' ≤ ccap → m' - a ≠ 0 → (if m' = a then ad else ad.add (a * i.size)) = ⟨p.cb, p.base + (o + a * i.size), none⟩ := by
          intro a m' h1 h2
          rw [if_neg (by omega), hA (by omega), add_base]
        cases cap with
        | some c =>
          have hc := hk c rfl
          subst hc
          show SV P B M w _ (bounds3 n ccap lo hi mx .fail fun a b m => fN (Nat.add o (Nat.mul a i.size)) fun o => fN (Nat.sub b a) fun n => .val (.sl id o n (some (Nat.sub m a))) h)
          rcases bounds_split (P := P) hlo hhi hmx true n ccap hl OR.fail (fun a b m => fN (Nat.add o (Nat.mul a i.size)) fun o => fN (Nat.sub b a) fun n => .val (.sl id o n (some (Nat.sub m a))) h) w with ⟨a, b, m, hr, hab, hbm, hmc, e3⟩ | e3 <;> rw [e3]
          · rw [fN_eq, fN_eq]
            refine .here H (fin a b m hr) (.sl hp (by show b - a ≤ m - a; omega) (by omega) (fun c e => by cases e; rfl) (fun hne => place a m hmc hne) (fun e => by cases e))
          · trivial
        | none =>
          cases hmx with
          | none =>
            show SV P B M w _ ((h.at_ id).elimCells .fail fun _ _ e' _ => cond (Nat.beq e' e) (bounds3 n n lo hi none .fail fun a b _ => fN (Nat.add o (Nat.mul a i.size)) fun o => fN (Nat.sub b a) fun n => .val (.sl id o n none) h) .fail)
            rcases Blk.cells_split (h.at_ id) OR.fail (fun _ _ e' _ => cond (Nat.beq e' e) (bounds3 n n lo hi none .fail fun a b _ => fN (Nat.add o (Nat.mul a i.size)) fun o => fN (Nat.sub b a) fun n => .val (.sl id o n none) h) .fail) with ⟨c, nn, e', z, hb, e3⟩ | e3 <;> rw [e3]
            · rw [beqN]
              by_cases he : e' = e
              · rw [decide_eq_true he, cond_true]
                subst he
                obtain ⟨q, arr, f, hq, hh, hsz, hzz, hn, hc, hf⟩ := H.cells hb hp
                rw [hp] at hq; cases hq
                rw [cellsOf_eq hinf] at hzz
                rcases bounds_none hlo hhi n n (Nat.le_refl _) OR.fail (fun a b _ => fN (Nat.add o (Nat.mul a i.size)) fun o => fN (Nat.sub b a) fun n => .val (.sl id o n none) h) with ⟨a, b, hf', hab, hbn, e4⟩ | e4 <;> rw [e4]
                · have hr := run_bounds (P := P) hf' true ccap ccap hab (by omega) (.inl ⟨rfl, rfl⟩) w
                  rw [fN_eq, fN_eq]
                  refine .here H (fin a b ccap hr) (.sl hp (by show b - a ≤ ccap - a; omega) (by omega) (fun c e => by cases e) (fun hne => place a ccap (Nat.le_refl _) hne) (fun _ => ?_))
                  have hz' := hz rfl
                  rw [← hzz] at hz' ⊢
                  have e5 : ccap * i.size = (ccap - a) * i.size + a * i.size := by rw [← Nat.add_mul]; congr 1; omega
                  have e6 : Nat.add o (Nat.mul a i.size) = o + a * i.size := rfl
                  rw [e6]; omega
                · trivial
              · rw [decide_eq_false he]; trivial
            · trivial
          | some hmv =>
            rename_i mv mv'
            show SV P B M w _ (bounds3 n n lo hi (some mv) .fail fun a b m => fN (Nat.add o (Nat.mul a i.size)) fun o => fN (Nat.sub b a) fun n => .val (.sl id o n (some (Nat.sub m a))) h)
            rcases bounds_some hlo hhi hmv n n OR.fail (fun a b m => fN (Nat.add o (Nat.mul a i.size)) fun o => fN (Nat.sub b a) fun n => .val (.sl id o n (some (Nat.sub m a))) h) with ⟨a, b, m, hf', hab, hbm, hmn, e4⟩ | e4 <;> rw [e4]
            · have hr := run_bounds (P := P) hf' true ccap m hab hbm (.inr ⟨by simp, rfl, by omega⟩) w
              rw [fN_eq, fN_eq]
              exact .here H (fin a b m hr) (.sl hp (by show b - a ≤ m - a; omega) (by omega) (fun c e => by cases e; rfl) (fun hne => place a m (by omega) hne) (fun e => by cases e))
            · trivial
      · trivial
    · trivial
  · rename_i n e hu
    unfold sliceArr
    rw [bleN]
    by_cases hn6 : n ≤ 1000000
    · rw [decide_eq_true hn6, cond_true]
      rcases AV.ptr_split hx OR.fail (fun id o => sizeA P e .fail fun s => bounds3 n n lo hi mx .fail fun a b m => fN (Nat.add o (Nat.mul a s)) fun o => .val (.sl id o (Nat.sub b a) (some (Nat.sub m a))) h) with ⟨id, o, p, rfl, hp, rfl, e1⟩ | e1 <;> rw [e1]
      · rcases sizeA_split (P := P) e OR.fail (fun s => bounds3 n n lo hi mx .fail fun a b m => fN (Nat.add o (Nat.mul a s)) fun o => .val (.sl id o (Nat.sub b a) (some (Nat.sub m a))) h) with ⟨i, hinf, e2⟩ | e2 <;> rw [e2]
        · rcases bounds_split (P := P) hlo hhi hmx false n n (Nat.le_refl _) OR.fail (fun a b m => fN (Nat.add o (Nat.mul a i.size)) fun o => .val (.sl id o (Nat.sub b a) (some (Nat.sub m a))) h) w with ⟨a, b, m, hr, hab, hbm, hmc, e3⟩ | e3 <;> rw [e3]
          · rw [fN_eq]
            refine .here H (v' := .slice (some (if m = a then ⟨p.cb, p.base + o, none⟩ else (⟨p.cb, p.base + o, none⟩ : Addr).add (a * i.size))) (b - a) (m - a)) ?_
              (.sl hp (by show b - a ≤ m - a; omega) (by omega) (fun c e => by cases e; rfl) (fun hne => by rw [if_neg (by omega), add_base]; rfl) (fun e => by cases e))
            simp only [Instr.sliceAt, Sem.run_bind, run_underlying hu, Instr.sureAddr, Result.andThen_ok, hr, run_sizeOf' hinf, Sem.run_pure]
          · trivial
        · trivial
      · trivial
    · rw [decide_eq_false hn6]; trivial
  · trivial
end
end Go.Ev
namespace Go.Ev
open Go Go.RowKit
variable {α β : Type}
section
variable {P : Program} {B : Bd} {M : Mp} {w : World} {h : AH}

/-! ### bytes -/
theorem u8s_eq (l : List Nat) : u8s l = l.map fun x => AV.int .u8 (Int.ofNat x) := by
  induction l with
  | nil => rfl
  | cons x l ih => exact congrArg (_ :: ·) ih
theorem u8s_rel (s : ByteArray) : LRel M (u8s (natsOf s)) (s.data.map fun b => Value.int .u8 b.toNat).toList := by
  rw [u8s_eq]
  unfold natsOf
  rw [Array.toList_map, List.map_map]
  generalize s.data.toList = l
  induction l with
  | nil => exact .nil
  | cons x l ih => exact .cons (.int .u8 _) ih
theorem byteA_split {v : AV} {x : Value} (hv : VRel M v x) (d : β) (f : Nat → β) : (∃ n, x = .int .u8 (Int.ofNat n) ∧ v = .int .u8 (Int.ofNat n) ∧ byteA v d f = f n) ∨ byteA v d f = d := by
  cases hv with
  | int k n =>
    cases k with
    | u8 => cases n with
      | ofNat n => exact .inl ⟨n, rfl, rfl, rfl⟩
      | negSucc n => exact .inr rfl
    | _ => exact .inr rfl
  | _ => exact .inr rfl
/-- Bytes, or it isn't told. -/
theorem bytesL_split (d : β) : ∀ (l : List AV) (l' : List Value), LRel M l l' → ∀ (k : List Nat → β),
    (∃ ns : List Nat, (∀ n ∈ ns, n < 256) ∧ ns.length = l.length ∧ l' = (ns.map Int.ofNat).map (Value.int .u8) ∧ bytesL l d k = k ns) ∨ bytesL l d k = d
  | _, _, .nil, k => .inl ⟨[], by simp, rfl, rfl, rfl⟩
  | x :: l, y :: l', .cons hx t, k => by
    have e0 : bytesL (x :: l) d k = byteA x d fun n => cond (Nat.blt n 256) (fN n fun n => bytesL l d fun t => k (n :: t)) d := rfl
    rw [e0]
    rcases byteA_split hx d (fun n => cond (Nat.blt n 256) (fN n fun n => bytesL l d fun t => k (n :: t)) d) with ⟨n, rfl, rfl, e⟩ | e <;> rw [e]
    · rw [bltN, fN_eq]
      by_cases hn : n < 256
      · rw [decide_eq_true hn, cond_true]
        rcases bytesL_split d l l' t (fun t => k (n :: t)) with ⟨ns, h1, h2, h3, e⟩ | e <;> rw [e]
        · refine .inl ⟨n :: ns, ?_, by simp [h2], ?_, rfl⟩
          · intro m hm
            rcases List.mem_cons.1 hm with rfl | hm
            · exact hn
            · exact h1 m hm
          · rw [h3]; rfl
        · exact .inr rfl
      · rw [decide_eq_false hn]; exact .inr rfl
    · exact .inr rfl
theorem foldl_push_nats : ∀ (ns : List Nat) (r : ByteArray), (∀ n ∈ ns, n < 256) → natsOf ((ns.map Int.ofNat).foldl (fun r n => r.push (UInt8.ofNat n.toNat)) r) = natsOf r ++ ns
  | [], r, _ => by simp
  | n :: ns, r, h => by
    rw [List.map_cons, List.foldl_cons, foldl_push_nats ns _ (fun m hm => h m (List.mem_cons_of_mem _ hm))]
    have hn := h n (by simp)
    have e1 : natsOf (r.push (UInt8.ofNat (Int.ofNat n).toNat)) = natsOf r ++ [n] := by
      unfold natsOf
      rw [ByteArray.data_push, Array.toList_push, List.map_append]
      congr 1
      simp; omega
    rw [e1]; simp

/-- The cells that are appended or copied. -/
theorem slCells_split {x : AV} {y : Value} (hx : VRel M x y) (s : Nat) (H : HRel P B M h w) (d : β) (k : List AV → Nat → β) :
    (∃ l n, l.length = n * s ∧ (∀ w2 : World, w2.heap = w.heap → (Builtin.lenOf y).run P w2 = .ok n w2) ∧ (∀ m, m ≤ n → ∃ l', (∀ w2 : World, w2.heap = w.heap → (Builtin.firstCells s m y).run P w2 = .ok l' w2) ∧ LRel M (l.take (m * s)) l'.toList) ∧ slCells x s h d k = k l n) ∨ slCells x s h d k = d := by
  unfold slCells
  rcases sl_split hx (x.elimStr d fun l => cond (Nat.beq s 1) (k (u8s l) (lenL l)) d) (k [] 0) (fun b o n _ => cond (Nat.beq n 0) (k [] 0) ((h.at_ b).elimCells d fun c m _ _ => cond (Nat.ble (Nat.add o (Nat.mul n s)) m) (k (getL c (Nat.mul n s) o) n) d))
    with ⟨rfl, rfl, e⟩ | ⟨b, o, n, cap, p, ad, ccap, rfl, rfl, hp, hl, hm, hk, hA, hz, e⟩ | e <;> rw [e]
  · refine .inl ⟨[], 0, by simp, fun _ _ => rfl, fun m hm => ⟨#[], fun _ _ => rfl, ?_⟩, rfl⟩
    simp only [List.take_nil]; exact .nil
  · rw [beqN]
    by_cases h0 : n = 0
    · rw [decide_eq_true h0, cond_true]
      subst h0
      refine .inl ⟨[], 0, by simp, fun _ _ => rfl, fun m hm => ⟨#[], fun _ _ => ?_, ?_⟩, rfl⟩
      · have : m = 0 := by omega
        subst this
        simp only [Builtin.firstCells, Nat.zero_mul]; rfl
      · simp only [List.take_nil]; exact .nil
    · rw [decide_eq_false h0, cond_false]
      rcases Blk.cells_split (h.at_ b) d (fun c m _ _ => cond (Nat.ble (Nat.add o (Nat.mul n s)) m) (k (getL c (Nat.mul n s) o) n) d) with ⟨c, nn, e', z, hb, e1⟩ | e1 <;> rw [e1]
      · rw [bleN]
        by_cases hle : Nat.add o (Nat.mul n s) ≤ nn
        · rw [decide_eq_true hle, cond_true]
          have hle' : o + n * s ≤ nn := hle
          obtain ⟨q, arr, f, hq, hh, hsz, hzz, hn, hc, hf⟩ := H.cells hb hp
          rw [hp] at hq; cases hq
          have hA' := hA (by omega)
          subst hA'
          refine .inl ⟨_, n, by rw [getL_eq]; simp, fun _ _ => rfl, fun m hm => ?_, rfl⟩
          have hms : m * s ≤ n * s := Nat.mul_le_mul_right s hm
          refine ⟨((List.range (m * s)).map fun j => (arr[p.base + o + j]?).getD undef).toArray, fun w2 h2 => ?_, ?_⟩
          · have hh2 : w2.heap[p.cb]? = some (.cells arr e' f) := by rw [h2]; exact hh
            exact run_loadCells_at hh2 (p.base + o) (m * s) (by omega)
          · have := (getL_rel hc hle').take (m * s)
            rw [← List.map_take, List.take_range, show min (m * s) (n * s) = m * s by omega] at this
            simpa using this
        · rw [decide_eq_false hle]; exact .inr rfl
      · exact .inr rfl
  · rcases str_split hx d (fun l => cond (Nat.beq s 1) (k (u8s l) (lenL l)) d) with ⟨s', rfl, rfl, e⟩ | e <;> rw [e]
    · rw [beqN, lenL_eq, natsOf_size]
      by_cases h1 : s = 1
      · rw [decide_eq_true h1, cond_true]
        subst h1
        refine .inl ⟨_, s'.size, by rw [u8s_eq]; simp [natsOf_size], fun _ _ => rfl, fun m hm => ⟨_, fun _ _ => rfl, ?_⟩, rfl⟩
        have := u8s_rel (M := M) (s'.extract 0 m)
        rw [natsOf_extract, List.drop_zero, Nat.sub_zero, u8s_eq, List.map_take, ← u8s_eq] at this
        simpa using this
      · rw [decide_eq_false h1]; exact .inr rfl
    · exact .inr rfl

theorem grownCap_eq (w : World) (need old e : Nat) : grownCap w need old e = need + w.tape w.drawn (Question.appendCap need old e) % (2 ^ 63 - need) := rfl
theorem grownCap_bd (w : World) (need old e : Nat) (h : need ≤ 1000000000) : grownCap w need old e ≤ 9223372036854775807 ∧ need ≤ grownCap w need old e := by
  rw [grownCap_eq]
  have := Nat.mod_lt (w.tape w.drawn (Question.appendCap need old e)) (show 0 < 2 ^ 63 - need by omega)
  constructor <;> omega

/-! ### conversions -/
theorem bytesWorld_heap (w : World) (e : Nat) (s : ByteArray) : (Lib.bytesWorld w e s).heap = (w.alloc (.cells (Lib.bytesCells w e s) e ((Lib.bytesCells w e s).size, (Lib.bytesCells w e s).size + 1))).heap := by
  apply Array.ext_getElem?
  intro i
  rcases Nat.lt_trichotomy i w.heap.size with hi | hi | hi
  · rw [Lib.bytesWorld_at_old w e s i hi, Below.heap_alloc _ _ _ hi]
  · subst hi
    rw [Lib.bytesWorld_at_new]
    show _ = (w.heap.push _)[w.heap.size]?
    simp
  · rw [Array.getElem?_eq_none (by rw [Lib.bytesWorld_size]; omega), Array.getElem?_eq_none (by rw [World.size_alloc]; omega)]
theorem conv_sound (src dst : Nat) {x : AV} {y : Value} (hx : VRel M x y) (H : HRel P B M h w) : SV P B M w (convert src dst y) (convOp P src dst x h) := by
  unfold convOp
  split
  · rename_i k1 k2 hs hd
    cases hx with
    | int k n =>
      show SV P B M w _ (.val (wrapV k2 n) h)
      rw [wrapV_eq]
      exact .here H (by simp [convert, run_underlying hs, run_underlying hd, Conv.intToInt]) (.int _ _)
    | _ => trivial
  · rename_i hs hd
    cases hx with
    | str s => exact .here H (v' := .string s) (by simp [convert, run_underlying hs, run_underlying hd]) (.str s)
    | _ => trivial
  · rename_i e hs hd
    split
    · rename_i he
      cases hx with
      | str s =>
        show SV P B M w _ (sizeA P e .fail fun z => cond (cond (Nat.beq z 1) (Nat.ble (lenL (natsOf s)) 1000000) false) (h.alloc (.cells (putL (u8s (natsOf s)) 0 .nil) (lenL (natsOf s)) e false) fun b h => .val (.sl b 0 (lenL (natsOf s)) none) h) .fail)
        rcases sizeA_split (P := P) e OR.fail (fun z => cond (cond (Nat.beq z 1) (Nat.ble (lenL (natsOf s)) 1000000) false) (h.alloc (.cells (putL (u8s (natsOf s)) 0 .nil) (lenL (natsOf s)) e false) fun b h => .val (.sl b 0 (lenL (natsOf s)) none) h) .fail) with ⟨i, hi, e1⟩ | e1 <;> rw [e1]
        · rw [beqN, bleN, lenL_eq, natsOf_size]
          by_cases h1 : i.size = 1
          · rw [decide_eq_true h1, cond_true]
            by_cases h2 : s.size ≤ 1000000
            · rw [decide_eq_true h2, cond_true, AH.alloc_eq]
              have hrun := Lib.run_convert_string_bytes (P := P) w src dst e s hs hd he
              have hcap := grownCap_bd w s.size 0 e (by omega)
              have hsz : (Lib.bytesCells w e s).size = grownCap w s.size 0 e := by
                simp [Lib.bytesCells]; omega
              have hN : HRel P B (M.ext h.next ⟨w.heap.size, 0, (Lib.bytesCells w e s).size, P.cellsOf e⟩) ⟨Tr.set .none (.cells (putL (u8s (natsOf s)) 0 .nil) s.size e false) (toP h.next) h.blks, h.next + 1⟩ (w.alloc (.cells (Lib.bytesCells w e s) e ((Lib.bytesCells w e s).size, (Lib.bytesCells w e s).size + 1))) := by
                refine H.new _ e _ _ s.size false (by rw [hsz]; exact hcap.2) (fun i v hi hv => ?_) (fun _ i hi hc => by omega)
                have hlen : (u8s (natsOf s)).length = s.size := by rw [u8s_eq]; simp [natsOf_size]
                rw [putL_get, if_pos (by omega), Nat.sub_zero]
                have hu := (u8s_rel (M := M) s).get i
                refine hu v ?_
                have : i < s.data.size := hi
                simp only [Lib.bytesCells, Array.getElem?_append, Array.size_map, this, if_true] at hv
                simpa using hv
              refine ⟨_, _, _, hrun, Mp.le_next H _, ?_, hN.same (bytesWorld_heap w e s), ?_⟩
              · refine .sl (p := ⟨w.heap.size, 0, (Lib.bytesCells w e s).size, P.cellsOf e⟩) Mp.ext_self hcap.2 hcap.1 (fun c e => by cases e) (fun _ => by simp) (fun _ => ?_)
                have : P.cellsOf e = 1 := by rw [cellsOf_eq hi, h1]
                show 0 + 0 + grownCap w s.size 0 e * P.cellsOf e ≤ (Lib.bytesCells w e s).size
                rw [this, hsz]; omega
              · refine ⟨rfl, rfl, rfl, by rw [Lib.bytesWorld_size]; omega, fun k hk => Lib.bytesWorld_at_old w e s k (by have := H.big; omega)⟩
            · rw [decide_eq_false h2]; trivial
          · rw [decide_eq_false h1]; trivial
        · trivial
      | _ => trivial
    · trivial
  · rename_i e hs hd
    split
    · rename_i he
      rcases sl_split hx OR.fail (.val (.str []) h) (fun _ _ _ _ => slCells x 1 h .fail fun l _ => bytesL l .fail fun l => .val (.str l) h) with ⟨rfl, rfl, e0⟩ | ⟨b, o, len, cap, p, a, ccap, rfl, rfl, hp, hle, hm, hk, hA, hz, e0⟩ | e0 <;> rw [e0]
      · refine .here H (v' := .string .empty) ?_ (.str .empty)
        rw [run_convert_bytes_string w src dst e none 0 0 hs he hd]; rfl
      · rcases slCells_split hx 1 H OR.fail (fun l _ => bytesL l .fail fun l => .val (.str l) h) with ⟨l, n, hlen, hlo, hfc, e1⟩ | e1 <;> rw [e1]
        · obtain ⟨l', hr, hl⟩ := hfc n (Nat.le_refl _)
          rw [List.take_of_length_le (by omega)] at hl
          rcases bytesL_split OR.fail l l'.toList hl (fun l => .val (.str l) h) with ⟨ns, h1, h2, h3, e2⟩ | e2 <;> rw [e2]
          · have hln : len = n := by have := hlo w rfl; cases this; rfl
            subst hln
            have hr1 : (loadCells a (len * 1)).run P w = .ok l' w := hr w rfl
            rw [Nat.mul_one] at hr1
            have hl' : l' = ((ns.map Int.ofNat).map (Value.int .u8)).toArray := by rw [← h3]
            rw [hl'] at hr1
            have hb := run_bytesToString (P := P) w a len ccap _ hr1
            have hn := foldl_push_nats ns ByteArray.empty h1
            have e0 : natsOf ByteArray.empty = [] := rfl
            rw [e0, List.nil_append] at hn
            have hv := VRel.str (M := M) ((ns.map Int.ofNat).foldl (fun r n => r.push (UInt8.ofNat n.toNat)) ByteArray.empty)
            rw [hn] at hv
            refine .here H ?_ hv
            rw [run_convert_bytes_string w src dst e (some a) len ccap hs he hd]; exact hb
          · trivial
        · trivial
      · trivial
    · trivial
  · trivial
end
end Go.Ev
namespace Go.Ev
open Go Go.RowKit
variable {α β : Type}
section
variable {P : Program} {B : Bd} {M : Mp} {w : World} {h : AH}

theorem sliceA_split (t : Nat) (d : β) (f : Nat → β) : (∃ e, P.underlying t = some (.slice e) ∧ sliceA P t d f = f e) ∨ sliceA P t d f = d := by
  unfold sliceA
  split
  · rename_i e hu; exact .inl ⟨e, hu, rfl⟩
  · exact .inr rfl
theorem notInt_split (t : Nat) (d k : β) : ((∃ u, P.underlying t = some u ∧ ∀ kd, u ≠ .int kd) ∧ notInt P t d k = k) ∨ notInt P t d k = d := by
  unfold notInt
  split
  · exact .inr rfl
  · exact .inr rfl
  · rename_i h1 h2
    cases hu : P.underlying t with
    | none => exact absurd hu h1
    | some u => exact .inl ⟨⟨u, rfl, fun kd e => h2 kd (by rw [hu, e])⟩, rfl⟩
theorem room_split (n e : Nat) (d k : β) : (∃ i, P.info? e = some i ∧ n ≤ 1000000 ∧ n * i.bytes ≤ 1048576 ∧ room P n e d k = k) ∨ room P n e d k = d := by
  unfold room
  rcases bytesA_split (P := P) e d (fun w => cond (cond (Nat.ble n 1000000) (Nat.ble (Nat.mul n w) 1048576) false) k d) with ⟨i, hi, e1⟩ | e1 <;> rw [e1]
  · rw [bleN, bleN]
    by_cases hn : n ≤ 1000000
    · rw [decide_eq_true hn, cond_true]
      by_cases hle : Nat.mul n i.bytes ≤ 1048576
      · rw [decide_eq_true hle, cond_true]; exact .inl ⟨i, hi, hn, hle, rfl⟩
      · rw [decide_eq_false hle]; exact .inr rfl
    · rw [decide_eq_false hn]; exact .inr rfl
  · exact .inr rfl

/-! ### the same cells again and again -/
theorem repT_get (z : List AV) (s : Nat) (hs : z.length = s) : ∀ (n j : Nat), j < n * s → (repT z s n).get .junk (toP j) = z.getD (j % s) .junk
  | 0, j, hj => by omega
  | n + 1, j, hj => by
    have e : repT z s (n + 1) = putL z (n * s) (repT z s n) := rfl
    rw [e, putL_get]
    have hm : (n + 1) * s = n * s + s := Nat.succ_mul n s
    by_cases h1 : n * s ≤ j ∧ j < n * s + z.length
    · rw [if_pos h1]
      congr 1
      have hlt : j - n * s < s := by omega
      have : j = n * s + (j - n * s) := by omega
      rw [this, Nat.add_comm (n * s), Nat.add_mul_mod_self_right, Nat.mod_eq_of_lt (by omega)]
      omega
    · rw [if_neg h1]
      exact repT_get z s hs n j (by omega)
theorem zeros_get (z : Value) (s n j : Nat) (hs : z.cells.size = s) (hj : j < n * s) : ((Array.range (n * s)).map (z.cells[· % z.cells.size]!))[j]? = some (z.cells.toList.getD (j % s) undef) := by
  have h0 : 0 < s := by
    rcases Nat.eq_zero_or_pos s with h | h
    · subst h; simp at hj
    · exact h
  have hm : j % s < z.cells.size := by rw [hs]; exact Nat.mod_lt _ h0
  simp only [Array.getElem?_map]
  have : (Array.range (n * s))[j]? = some j := by simp [hj]
  rw [this]
  simp only [Option.map_some, Option.some.injEq, hs]
  have hm' : j % s < z.cells.toList.length := by simpa using hm
  simp only [List.getD, List.getElem?_eq_getElem hm', Option.getD_some]
  simp [hm]
theorem makeSlice_sound (t : Nat) {n c : AV} {n' c' : Value} (hn : VRel M n n') (hc : VRel M c c') (H : HRel P B M h w) : SV P B M w (Instr.makeSlice t n' c') (makeSliceOp P t n c h) := by
  unfold makeSliceOp
  rcases sliceA_split (P := P) t OR.fail (fun e => natA n .fail fun n => natA c .fail fun c => cond (Nat.ble n c) (bytesA P e .fail fun w => cond (cond (Nat.ble c 1048576) (Nat.ble (Nat.mul w c) 1048576) false) (sizeA P e .fail fun s => zeroA P e .fail fun z => cond (Nat.beq s (lenL z.cells)) (
    h.alloc (.cells (repT z.cells s c) (Nat.mul c s) e false) fun b h => .val (.sl b 0 n (some c)) h) .fail) .fail) .fail) with ⟨e, hu, e1⟩ | e1 <;> rw [e1]
  · rcases natA_split hn OR.fail (fun n => natA c .fail fun c => cond (Nat.ble n c) (bytesA P e .fail fun w => cond (cond (Nat.ble c 1048576) (Nat.ble (Nat.mul w c) 1048576) false) (sizeA P e .fail fun s => zeroA P e .fail fun z => cond (Nat.beq s (lenL z.cells)) (
      h.alloc (.cells (repT z.cells s c) (Nat.mul c s) e false) fun b h => .val (.sl b 0 n (some c)) h) .fail) .fail) .fail) with ⟨kn, n, rfl, rfl, e1⟩ | e1 <;> rw [e1]
    · rcases natA_split hc OR.fail (fun c => cond (Nat.ble n c) (bytesA P e .fail fun w => cond (cond (Nat.ble c 1048576) (Nat.ble (Nat.mul w c) 1048576) false) (sizeA P e .fail fun s => zeroA P e .fail fun z => cond (Nat.beq s (lenL z.cells)) (
        h.alloc (.cells (repT z.cells s c) (Nat.mul c s) e false) fun b h => .val (.sl b 0 n (some c)) h) .fail) .fail) .fail) with ⟨kc, c, rfl, rfl, e1⟩ | e1 <;> rw [e1]
      · rw [bleN]
        by_cases hnc : n ≤ c
        · rw [decide_eq_true hnc, cond_true]
          rcases bytesA_split (P := P) e OR.fail (fun w => cond (cond (Nat.ble c 1048576) (Nat.ble (Nat.mul w c) 1048576) false) (sizeA P e .fail fun s => zeroA P e .fail fun z => cond (Nat.beq s (lenL z.cells)) (
            h.alloc (.cells (repT z.cells s c) (Nat.mul c s) e false) fun b h => .val (.sl b 0 n (some c)) h) .fail) .fail) with ⟨i, hi, e1⟩ | e1 <;> rw [e1]
          · rw [bleN, bleN]
            by_cases hc1 : c ≤ 1048576
            · rw [decide_eq_true hc1, cond_true]
              by_cases hc2 : Nat.mul i.bytes c ≤ 1048576
              · rw [decide_eq_true hc2, cond_true]
                rcases sizeA_split (P := P) e OR.fail (fun s => zeroA P e .fail fun z => cond (Nat.beq s (lenL z.cells)) (
                  h.alloc (.cells (repT z.cells s c) (Nat.mul c s) e false) fun b h => .val (.sl b 0 n (some c)) h) .fail) with ⟨j, hj, e1⟩ | e1 <;> rw [e1]
                · rw [hi] at hj; cases hj
                  rcases zeroA_split (P := P) e OR.fail (fun z => cond (Nat.beq i.size (lenL z.cells)) (
                    h.alloc (.cells (repT z.cells i.size c) (Nat.mul c i.size) e false) fun b h => .val (.sl b 0 n (some c)) h) .fail) with ⟨j, z, hj, hz, e1⟩ | e1 <;> rw [e1]
                  · rw [hi] at hj; cases hj
                    rw [beqN, lenL_eq]
                    by_cases hs : i.size = (ofConst z).cells.length
                    · rw [decide_eq_true hs, cond_true, AH.alloc_eq]
                      have hzr := ofConst_cells (M := M) z
                      have hzs : z.cells.size = i.size := by have := hzr.length; simp at this; omega
                      have hc2' : i.bytes * c ≤ 1048576 := hc2
                      have hN := H.new ((Array.range (c * i.size)).map (z.cells[· % z.cells.size]!)) e (0, 0) (repT (ofConst z).cells i.size c) (c * i.size) false (by simp) (fun q v hq hv => by
                        rw [repT_get _ _ hs.symm _ _ hq]
                        rw [zeros_get z i.size c q hzs hq] at hv
                        cases hv
                        have hlt : q % i.size < z.cells.toList.length := by
                          have : 0 < i.size := by
                            rcases Nat.eq_zero_or_pos i.size with h | h
                            · rw [h] at hq; simp at hq
                            · exact h
                          have := Nat.mod_lt q this
                          simp; omega
                        exact hzr.get _ _ (by simp only [List.getD, List.getElem?_eq_getElem hlt, Option.getD_some])) (fun _ q _ => by simp)
                      refine ⟨_, .slice (some ⟨w.heap.size, 0, none⟩) n c, _, ?_, Mp.le_next H _, ?_, hN, Below.new H _⟩
                      · have w1 : IntKind.i64.wrap (Int.ofNat n) = Int.ofNat n := IntWalk.i64_in _ (by simp only [Int.ofNat_eq_natCast]; omega)
                        have w2 : IntKind.i64.wrap (Int.ofNat c) = Int.ofNat c := IntWalk.i64_in _ (by simp only [Int.ofNat_eq_natCast]; omega)
                        have t1 : ¬ ((i.bytes : Int) * Int.ofNat c > 2 ^ 48) := by
                          have : ((i.bytes * c : Nat) : Int) ≤ ((1048576 : Nat) : Int) := Int.ofNat_le.2 hc2'
                          rw [Int.natCast_mul] at this
                          simp only [Int.ofNat_eq_natCast]; omega
                        have t2 : ¬ (Int.ofNat c < 0) := by simp
                        have t3 : ¬ (Int.ofNat n < 0) := by simp
                        have t4 : ¬ (Int.ofNat n > Int.ofNat c) := by simp; omega
                        have t5 : (Int.ofNat c).toNat = c := rfl
                        have t6 : (Int.ofNat n).toNat = n := rfl
                        have run1 : ∀ (x : Value), (asInt x).run P w = (match x with | .int _ n => Result.ok n w | .pointer (some _) => .halt (.unsupported .addressObserved) w | _ => .halt (.stuck "int expected") w) := by
                          intro x
                          simp only [asInt, Sem.run_bind]
                          cases x <;> first | rfl | (rename_i a; cases a <;> rfl)
                        unfold Instr.makeSlice
                        simp only [Sem.run_bind, run_underlying hu, Result.andThen_ok, run1, run_typeInfo' hi, w1, w2, t5, t6]
                        simp only [t1, t2, t3, t4, decide_false, Bool.or_false, Bool.false_eq_true, if_false, Sem.run_bind, run_askRoom, Result.andThen_ok, run_sizeOf' hi]
                        by_cases h0 : c * i.size = 0
                        · have hr0 : ∀ f : Nat → Value, Array.map f (Array.range 0) = #[] := fun f => by simp
                          simp only [h0, if_true, Sem.run_bind, Sem.run_pure, Result.andThen_ok, run_newRow, hr0]
                        · simp only [h0, if_false, Sem.run_bind, run_zero' hi hz, Sem.run_pure, Result.andThen_ok, run_newRow]
                      · refine .sl (p := ⟨w.heap.size, 0, _, P.cellsOf e⟩) Mp.ext_self hnc (by omega) (fun c' e => by cases e; rfl) (fun _ => by simp) (fun e => by cases e)
                    · rw [decide_eq_false hs]; trivial
                  · trivial
                · trivial
              · rw [decide_eq_false hc2]; trivial
            · rw [decide_eq_false hc1]; trivial
          · trivial
        · rw [decide_eq_false hnc]; trivial
      · trivial
    · trivial
  · trivial
end
end Go.Ev
namespace Go.Ev
open Go Go.RowKit
variable {α β : Type}
section
variable {P : Program} {B : Bd} {M : Mp} {w : World} {h : AH}

set_option maxHeartbeats 2000000 in
theorem append_fits_some {t0 t1 ty e : Nat} {i : TypeInfo} {u : TypeDesc} (hu : P.underlying t0 = some (.slice e)) (hi : P.info? e = some i) (h1 : P.underlying t1 = some u) (h1' : ∀ kd, u ≠ .int kd)
    {a : Addr} {sLen sCap n : Nat} {y : Value} {w : World} {new : Array Value} (hlo : (Builtin.lenOf y).run P w = .ok n w) (hle : sLen + n ≤ sCap) (hfc : (Builtin.firstCells i.size n y).run P w = .ok new w) {w' : World}
    (hst : (storeCells (a.add (sLen * i.size)) new.toList).run P w = .ok () w') :
    (Builtin.append_ #[t0, t1] ty #[.slice (some a) sLen sCap, y]).run P w = .ok (.slice (some a) (sLen + n) sCap) w' := by
  cases u <;> first
    | exact absurd rfl (h1' _)
    | simp [Builtin.append_, run_underlying hu, run_underlying h1, run_sizeOf' hi, hlo, hle, hfc, hst]
set_option maxHeartbeats 2000000 in
theorem append_none {t0 t1 ty e : Nat} {i : TypeInfo} {u : TypeDesc} (hu : P.underlying t0 = some (.slice e)) (hi : P.info? e = some i) (h1 : P.underlying t1 = some u) (h1' : ∀ kd, u ≠ .int kd)
    {y : Value} {w : World} {new : Array Value} (hlo : (Builtin.lenOf y).run P w = .ok 0 w) (hfc : (Builtin.firstCells i.size 0 y).run P w = .ok new w) :
    (Builtin.append_ #[t0, t1] ty #[.slice none 0 0, y]).run P w = .ok (.slice none 0 0) w := by
  cases u <;> first
    | exact absurd rfl (h1' _)
    | simp [Builtin.append_, run_underlying hu, run_underlying h1, run_sizeOf' hi, hlo, hfc]
set_option maxHeartbeats 2000000 in
theorem append_grows {t0 t1 ty e : Nat} {i : TypeInfo} {u : TypeDesc} {z : Value} (hu : P.underlying t0 = some (.slice e)) (hi : P.info? e = some i) (hz : i.zero = some z) (h1 : P.underlying t1 = some u) (h1' : ∀ kd, u ≠ .int kd)
    {base : Option Addr} {sLen sCap n : Nat} {y : Value} {w : World} {old new : Array Value} (hlo : (Builtin.lenOf y).run P w = .ok n w) (hgt : ¬ sLen + n ≤ sCap) (hbd : sLen + n ≤ 1000000000) (hby : (sLen + n) * i.bytes ≤ 1048576)
    (hfo : (Builtin.firstCells i.size sLen (.slice base sLen sCap)).run P w.drew = .ok old w.drew) (hfc : (Builtin.firstCells i.size n y).run P w.drew = .ok new w.drew) :
    (Builtin.append_ #[t0, t1] ty #[.slice base sLen sCap, y]).run P w = .ok (.slice (some ⟨w.heap.size, 0, none⟩) (sLen + n) (grownCap w (sLen + n) sCap e))
      (w.drew.alloc (.cells (old ++ new ++ Builtin.zeroCells z.cells (grownCap w (sLen + n) sCap e - (sLen + n))) e (0, 0))) := by
  have hfit := growslice_fits (need := sLen + n) (old := sCap) (bytes := i.bytes) (by omega) (by omega)
  have c3 : ¬ (281474976710656 < Builtin.nextslicecap (sLen + n) sCap * i.bytes) := by omega
  have c4 : ¬ (9223372036854775807 < (sLen : Int) + (n : Int)) := by omega
  cases u <;> first
    | exact absurd rfl (h1' _)
    | simp [Builtin.append_, run_underlying hu, run_underlying h1, run_sizeOf' hi, run_typeInfo' hi, run_zero' hi hz, hlo, hgt, c3, c4, Question.forced, hfo, hfc, run_newRow, grownCap]
end
end Go.Ev
