/- append, copy, len and others; structs and slices that are made. -/
import Derived.Test.YtgfdfmgocijdgaaGreatDoorEv4
import Derived.Laws.Tables
namespace Go.Ev
open Go Go.RowKit
variable {α β : Type}
section
variable {P : Program} {B : Bd} {M : Mp} {w : World} {h : AH}

/-! ### append -/
theorem zeroCells_size (z : Array Value) (n : Nat) : (Builtin.zeroCells z n).size = n * z.size := by simp [Builtin.zeroCells]
theorem growT_get (c : Tr AV) (o l z : Nat) {k : Nat} (new : List AV) (hn : new.length = k * z) (j : Nat) (hj : j < l * z + k * z) :
    (growT c o l z new).get .junk (toP j) = if j < l * z then c.get .junk (toP (o + j)) else new.getD (j - l * z) .junk := by
  unfold growT
  have e0 : Nat.mul l z = l * z := rfl
  rw [putL_get, e0]
  by_cases h1 : j < l * z
  · rw [if_neg (by omega), if_pos h1, beqN]
    by_cases h0 : o = 0
    · rw [decide_eq_true h0, cond_true, h0, Nat.zero_add]
    · rw [decide_eq_false h0, cond_false, putL_get, if_pos (by rw [getL_eq]; simp; omega), getL_eq]
      simp [List.getD, h1]
  · rw [if_pos (by omega), if_neg h1]
/-- The cells of the grown row: the old ones, the new ones. -/
theorem grown_rel {c : Tr AV} {o l z m : Nat} {new : List AV} {oldA newA rest : Array Value} (hold : ∀ j v, j < l * z → oldA[j]? = some v → VRel M (c.get .junk (toP (o + j))) v) (ho : oldA.size = l * z) (hnew : LRel M new newA.toList) (hn : new.length = m * z)
    (i : Nat) (v : Value) (hi : i < l * z + m * z) (hv : (oldA ++ newA ++ rest)[i]? = some v) : VRel M ((growT c o l z new).get .junk (toP i)) v := by
  rw [growT_get c o l z new hn i hi]
  have hns : newA.size = m * z := by have := hnew.length; simp at this; omega
  rw [Array.getElem?_append, if_pos (by simp; omega)] at hv
  rw [Array.getElem?_append] at hv
  by_cases h1 : i < l * z
  · rw [if_pos h1]
    rw [if_pos (by omega)] at hv
    exact hold i v h1 hv
  · rw [if_neg h1]
    rw [if_neg (by omega), ho] at hv
    exact hnew.get _ v (by simpa using hv)

theorem HRel.drew (H : HRel P B M h w) : HRel P B M h w.drew := H.same rfl
theorem Below.drewNew (H : HRel P B M h w) (o : Obj) : Below B.n w (w.drew.alloc o) := ((Below.refl B.n w).drew).alloc H.big o
/-- A grown row lies in a new block. -/
theorem grown_new {H' : AH} (H : HRel P B M H' w) {e z l n : Nat} {zv : Value} {i : TypeInfo} (hi : P.info? e = some i) (hz : i.size = z) (hzs : zv.cells.size = z) {oldA newA : Array Value} (ho : oldA.size = l * z) (hns : newA.size = n * z)
    {c : Tr AV} {cap : Nat} (hcap : l + n ≤ cap ∧ cap ≤ 9223372036854775807)
    (hc : ∀ q v, q < l * z + n * z → (oldA ++ newA ++ Builtin.zeroCells zv.cells (cap - (l + n)))[q]? = some v → VRel M (c.get .junk (toP q)) v) {s : Sem Value}
    (hs : s.run P w = .ok (.slice (some ⟨w.heap.size, 0, none⟩) (l + n) cap) (w.drew.alloc (.cells (oldA ++ newA ++ Builtin.zeroCells zv.cells (cap - (l + n))) e (0, 0)))) :
    ∃ M' v' w', s.run P w = .ok v' w' ∧ M.le M' ∧ VRel M' (.sl H'.next 0 (l + n) none) v' ∧ HRel P B M' ⟨Tr.set .none (.cells c ((l + n) * z) e false) (toP H'.next) H'.blks, H'.next + 1⟩ w' ∧ Below B.n w w' := by
  have hsz : (oldA ++ newA ++ Builtin.zeroCells zv.cells (cap - (l + n))).size = cap * z := by
    simp only [Array.size_append, zeroCells_size, ho, hns, hzs]
    rw [← Nat.add_mul, ← Nat.add_mul]; congr 1; omega
  have hle : (l + n) * z ≤ cap * z := Nat.mul_le_mul_right z hcap.1
  have hN := H.drew.new (oldA ++ newA ++ Builtin.zeroCells zv.cells (cap - (l + n))) e (0, 0) c ((l + n) * z) false (by rw [hsz]; exact hle)
    (fun q v hq hv => hc q v (by rw [← Nat.add_mul]; exact hq) hv) (fun _ q _ => by simp)
  refine ⟨_, _, _, hs, Mp.le_next H _, ?_, hN, Below.drewNew H _⟩
  refine .sl (p := ⟨w.drew.heap.size, 0, _, P.cellsOf e⟩) Mp.ext_self hcap.1 hcap.2 (fun c e => by cases e) (fun _ => by simp) (fun _ => ?_)
  show 0 + 0 + cap * P.cellsOf e ≤ (oldA ++ newA ++ Builtin.zeroCells zv.cells (cap - (l + n))).size
  rw [hsz, cellsOf_eq hi, hz]; omega
theorem firstCells_ok {s m : Nat} {y : Value} {new : Array Value} (hfc : ∀ w2 : World, w2.heap = w.heap → (Builtin.firstCells s m y).run P w2 = .ok new w2) : (Builtin.firstCells s m y).run P w.drew = .ok new w.drew := hfc w.drew rfl

theorem append2_sound {t0 t1 ty e z : Nat} {i : TypeInfo} {u : TypeDesc} {zv : Value} (hu : P.underlying t0 = some (.slice e)) (hi : P.info? e = some i) (hz : i.size = z) (hzv : i.zero = some zv) (hzs : zv.cells.size = z) (h1 : P.underlying t1 = some u) (h1' : ∀ kd, u ≠ .int kd)
    {s : AV} {y x : Value} (hs : VRel M s y) {new : List AV} {newA : Array Value} {n : Nat} (hlo : ∀ w2 : World, w2.heap = w.heap → (Builtin.lenOf x).run P w2 = .ok n w2) (hfc : ∀ w2 : World, w2.heap = w.heap → (Builtin.firstCells z n x).run P w2 = .ok newA w2)
    (hnew : LRel M new newA.toList) (hnl : new.length = n * z) (hn0 : n ≠ 0) (hone : new.all AV.one = true) (H : HRel P B M h w) :
    SV P B M w (Builtin.append_ #[t0, t1] ty #[y, x]) (append2 P e z s new n h) := by
  have hns : newA.size = n * z := by have := hnew.length; simp at this; omega
  unfold append2
  rcases sl_split hs OR.fail (room P n e .fail (h.alloc (.cells (putL new 0 .nil) (Nat.mul n z) e false) fun b h => .val (.sl b 0 n none) h))
    (fun b o l cap => fN (Nat.add l n) fun m => room P m e .fail (Option.rec (motive := fun _ => OR) (appendOpen P e z b o l n m new h) (fun c => appendKnown P e z b o l n m c new h) cap))
    with ⟨rfl, rfl, e1⟩ | ⟨b, o, l, cap, p, ad, ccap, rfl, rfl, hp, hl, hm, hk, hA, hzz, e1⟩ | e1 <;> rw [e1]
  · rcases room_split (P := P) n e OR.fail (h.alloc (.cells (putL new 0 .nil) (Nat.mul n z) e false) fun b h => .val (.sl b 0 n none) h) with ⟨j, hj, hn6, hby, e1⟩ | e1 <;> rw [e1]
    · rw [hi] at hj; cases hj
      rw [AH.alloc_eq]
      have hcap := grownCap_bd w (0 + n) 0 e (by omega)
      have hrun := append_grows (P := P) (ty := ty) hu hi hzv h1 h1' (base := none) (sLen := 0) (sCap := 0) (old := #[]) (hlo w rfl) (by omega) (by omega) (by rw [Nat.zero_add]; exact hby) rfl (by rw [hz]; exact firstCells_ok hfc)
      have := grown_new (l := 0) (n := n) H hi hz hzs (oldA := #[]) (newA := newA) (by simp) hns (c := putL new 0 .nil) (cap := grownCap w (0 + n) 0 e) ⟨hcap.2, hcap.1⟩ (fun q v hq hv => by
        rw [putL_get, if_pos (by omega), Nat.sub_zero]
        have hq' : q < newA.size := by omega
        rw [Array.getElem?_append, if_pos (by simp; omega)] at hv
        simp only [Array.empty_append] at hv
        exact hnew.get q v (by simpa using hv)) hrun
      rw [Nat.zero_add] at this
      exact this
    · trivial
  · rw [fN_eq]
    rcases room_split (P := P) (Nat.add l n) e OR.fail (Option.rec (motive := fun _ => OR) (appendOpen P e z b o l n (Nat.add l n) new h) (fun c => appendKnown P e z b o l n (Nat.add l n) c new h) cap) with ⟨j, hj, hn6, hby, e1⟩ | e1 <;> rw [e1]
    · rw [hi] at hj; cases hj
      have hby' : (l + n) * i.bytes ≤ 1048576 := hby
      have hn6' : l + n ≤ 1000000 := hn6
      -- the row grows: from the cells that are there
      have grows : ∀ (c : Tr AV) (oldA : Array Value) (H' : AH) (_ : HRel P B M H' w) (hgt : ¬ l + n ≤ ccap) (ho : oldA.size = l * z) (hfo : (Builtin.firstCells i.size l (.slice (some ad) l ccap)).run P w.drew = .ok oldA w.drew)
          (hold : ∀ q v, q < l * z + n * z → (oldA ++ newA ++ Builtin.zeroCells zv.cells (grownCap w (l + n) ccap e - (l + n)))[q]? = some v → VRel M (c.get .junk (toP q)) v),
          SV P B M w (Builtin.append_ #[t0, t1] ty #[.slice (some ad) l ccap, x]) (.val (.sl H'.next 0 (l + n) none) ⟨Tr.set .none (.cells c ((l + n) * z) e false) (toP H'.next) H'.blks, H'.next + 1⟩) := by
        intro c oldA H' hH' hgt ho hfo hold
        have hcap := grownCap_bd w (l + n) ccap e (by omega)
        have hrun := append_grows (P := P) (ty := ty) hu hi hzv h1 h1' (base := some ad) (sLen := l) (sCap := ccap) (old := oldA) (hlo w rfl) hgt (by omega) hby' hfo (by rw [hz]; exact firstCells_ok hfc)
        exact grown_new hH' hi hz hzs ho hns ⟨hcap.2, hcap.1⟩ hold hrun
      -- the cells that are there
      have olds : ∀ (c : Tr AV) (k e' : Nat) (f : Bool), h.at_ b = .cells c k e' f → l ≠ 0 → o + l * z ≤ k →
          ∃ oldA : Array Value, oldA.size = l * z ∧ (Builtin.firstCells i.size l (.slice (some ad) l ccap)).run P w.drew = .ok oldA w.drew ∧ (∀ j v, j < l * z → oldA[j]? = some v → VRel M (c.get .junk (toP (o + j))) v) := by
        intro c k e' f hb hl0 hle
        obtain ⟨q, arr, fz, hq, hh, hsz, hzq, hn, hc, hf⟩ := H.cells hb hp
        rw [hp] at hq; cases hq
        have hA' := hA (by omega)
        subst hA'
        have hh2 : w.drew.heap[p.cb]? = some (.cells arr e' fz) := hh
        refine ⟨((List.range (l * z)).map fun j => (arr[p.base + o + j]?).getD undef).toArray, by simp, ?_, ?_⟩
        · rw [hz]; exact run_loadCells_at hh2 (p.base + o) (l * z) (by omega)
        · intro j v hj hv
          obtain ⟨v', a1, a2⟩ := hc (o + j) (by omega)
          simp only [List.getElem?_toArray, List.getElem?_map, List.getElem?_range hj, Option.map_some, Option.some.injEq] at hv
          rw [Nat.add_assoc, a1] at hv
          simp only [Option.getD_some] at hv
          subst hv; exact a2
      have noOld : ∀ (c : Tr AV) (q : Nat) (v : Value), l = 0 → c = putL new 0 .nil → q < l * z + n * z → ((#[] : Array Value) ++ newA ++ Builtin.zeroCells zv.cells (grownCap w (l + n) ccap e - (l + n)))[q]? = some v → VRel M (c.get .junk (toP q)) v := by
        intro c q v hl0 hc hq hv
        subst hl0 hc
        rw [putL_get, if_pos (by omega), Nat.sub_zero]
        rw [Array.getElem?_append, if_pos (by simp; omega)] at hv
        simp only [Array.empty_append] at hv
        exact hnew.get q v (by simpa using hv)
      have old0 : l = 0 → (Builtin.firstCells i.size l (.slice (some ad) l ccap)).run P w.drew = .ok #[] w.drew := by
        intro hl0
        subst hl0
        simp only [Builtin.firstCells, Nat.zero_mul]; rfl
      cases cap with
      | some c0 =>
        have hc0 := hk c0 rfl
        subst hc0
        show SV P B M w _ (appendKnown P e z b o l n (l + n) ccap new h)
        unfold appendKnown
        rw [bleN]
        by_cases hfit : l + n ≤ ccap
        · rw [decide_eq_true hfit, cond_true]
          have hA' := hA (by omega)
          subst hA'
          rcases write_split H b (Nat.add o (Nat.mul l z)) hp (l := new) (l' := newA.toList) (fun _ => hnew) OR.fail (fun h => .val (.sl b o (l + n) (some ccap)) h) with ⟨h', a1, a2, a3, a4, e2⟩ | e2 <;> rw [e2]
          · have e3 : Nat.add o (Nat.mul l z) = o + l * z := rfl
            rw [e3] at a1 a2 a3
            refine ⟨M, .slice (some ⟨p.cb, p.base + o, none⟩) (l + n) ccap, _, append_fits_some (ty := ty) hu hi h1 h1' (hlo w rfl) hfit (by rw [hz]; exact hfc w rfl) (by rw [add_base, hz]; exact a1), Mp.le.refl M, ?_, a2, a3⟩
            exact .sl hp hfit hm (fun c e => by cases e; rfl) (fun _ => rfl) (fun e => by cases e)
          · trivial
        · rw [decide_eq_false hfit, cond_false, beqN]
          by_cases hl0 : l = 0
          · rw [decide_eq_true hl0, cond_true, AH.alloc_eq]
            exact grows _ #[] h H hfit (by rw [hl0]; simp) (old0 hl0) (fun q v hq hv => noOld _ q v hl0 rfl hq hv)
          · rw [decide_eq_false hl0, cond_false]
            rcases Blk.cells_split (h.at_ b) OR.fail (fun t k _ _ => cond (Nat.ble (Nat.add o (Nat.mul l z)) k) (h.alloc (.cells (growT t o l z new) (Nat.mul (l + n) z) e false) fun b h => .val (.sl b 0 (l + n) none) h) .fail) with ⟨c, k, e', f, hb, e2⟩ | e2 <;> rw [e2]
            · rw [bleN]
              by_cases hle : Nat.add o (Nat.mul l z) ≤ k
              · rw [decide_eq_true hle, cond_true, AH.alloc_eq]
                obtain ⟨oldA, b1, b2, b3⟩ := olds c k e' f hb hl0 hle
                exact grows _ oldA h H hfit b1 b2 (fun q v hq hv => grown_rel b3 b1 hnew hnl q v hq hv)
              · rw [decide_eq_false hle]; trivial
            · trivial
      | none =>
        show SV P B M w _ (appendOpen P e z b o l n (l + n) new h)
        unfold appendOpen
        rcases Blk.cells_split (h.at_ b) OR.fail (fun c k e' f => cond f .fail (cond (Nat.blt b P.globals.size) .fail (cond (cond (Nat.beq e' e) (Nat.ble (Nat.add o (Nat.mul l z)) k) false)
          ((h.put b .none).alloc (.cells (growT c o l z new) (Nat.mul (l + n) z) e false) fun b h => .val (.sl b 0 (l + n) none) h) .fail))) with ⟨c, k, e', f, hb, e2⟩ | e2 <;> rw [e2]
        · cases f with
          | true => trivial
          | false =>
            rw [cond_false, bltN, beqN, bleN]
            by_cases hg : b < P.globals.size
            · rw [decide_eq_true hg]; trivial
            · rw [decide_eq_false hg, cond_false]
              by_cases hee : e' = e
              · rw [decide_eq_true hee, cond_true]
                subst hee
                by_cases hle : Nat.add o (Nat.mul l z) ≤ k
                · rw [decide_eq_true hle, cond_true, AH.alloc_eq]
                  have hle' : o + l * z ≤ k := hle
                  by_cases hfit : l + n ≤ ccap
                  · -- in place
                    have hA' := hA (by omega)
                    subst hA'
                    obtain ⟨q, arr, fz, hq, hh, hsz, hzq, hkn, hc, hf⟩ := H.cells hb hp
                    rw [hp] at hq; cases hq
                    have hB : B.n ≤ p.cb := (H.own b p hp).resolve_left hg
                    have hz' := hzz rfl
                    have hpz : p.z = z := by rw [← hzq, cellsOf_eq hi, hz]
                    rw [hpz] at hz'
                    have hmul : (l + n) * z ≤ ccap * z := Nat.mul_le_mul_right z hfit
                    have hadd : (l + n) * z = l * z + n * z := Nat.add_mul l n z
                    have hnl' : newA.toList.length = n * z := by simpa using hns
                    have hst := run_storeCells_cells (P := P) p.cb (p.base + o + l * z) newA.toList 0 w
                      (fun j hj => by
                        rw [cell_of hh]
                        have : p.base + o + l * z + 0 + j < arr.size := by omega
                        have : p.base + o + l * z + j < arr.size := by omega
                        simp [this])
                      (fun j hj => frozen_of hh (hf rfl _ (by omega) (by omega))) (hnew.all_one hone)
                    rw [Nat.add_zero] at hst
                    obtain ⟨arr', a1, a2, a3, a4, a5, a6, a7, a8⟩ := setCells_heap p.cb e' fz newA.toList (p.base + o + l * z) arr w hh
                    have hal : h.at_ b ≠ .none := by rw [hb]; simp
                    have hmv := HRel.move (q := ⟨p.cb, p.base + o, p.size, p.z⟩) H hp rfl hB a4 a5 hal (.cells (growT c o l z new) (Nat.mul (l + n) z) e' false) (by
                      have hle2 := Mp.le_next H ⟨p.cb, p.base + o, p.size, p.z⟩
                      refine ⟨arr', fz, a1, by show arr'.size = p.size; omega, by rw [hzq], by show p.base + o + (l + n) * z ≤ arr'.size; omega, fun i' hi' => ?_, fun _ i' h1 h2 => hf rfl i' (by show p.base ≤ i'; have : p.base + o ≤ i' := h1; omega) (by omega)⟩
                      have hi2 : i' < l * z + n * z := by rw [← hadd]; exact hi'
                      have hlt : p.base + o + i' < arr.size := by omega
                      show ∃ v, arr'[p.base + o + i']? = some v ∧ _
                      rw [a3 _ hlt, growT_get c o l z new hnl i' hi2]
                      by_cases hc1 : i' < l * z
                      · rw [if_neg (by omega), if_pos hc1]
                        obtain ⟨v, b1, b2⟩ := hc (o + i') (by omega)
                        exact ⟨v, by rw [Nat.add_assoc]; exact b1, b2.mono hle2⟩
                      · rw [if_pos (by omega), if_neg hc1]
                        have e3 : p.base + o + i' - (p.base + o + l * z) = i' - l * z := by omega
                        rw [e3]
                        have hlt2 : i' - l * z < newA.toList.length := by omega
                        refine ⟨_, rfl, (hnew.get (i' - l * z) _ ?_).mono hle2⟩
                        simp only [List.getD, List.getElem?_eq_getElem hlt2, Option.getD_some])
                    refine ⟨_, .slice (some ⟨p.cb, p.base + o, none⟩) (l + n) ccap, _, append_fits_some (ty := ty) hu hi h1 h1' (hlo w rfl) hfit (by rw [hz]; exact hfc w rfl) (by rw [add_base, hz, ← Nat.add_assoc]; exact hst), Mp.le_next H _, ?_, hmv, ⟨a6, a7, a8, by omega, fun k hk => a5 k (by omega)⟩⟩
                    refine .sl (p := ⟨p.cb, p.base + o, p.size, p.z⟩) Mp.ext_self hfit hm (fun c e => by cases e) (fun _ => rfl) (fun _ => ?_)
                    show p.base + o + 0 + ccap * p.z ≤ p.size
                    rw [hpz]; omega
                  · -- a new row
                    by_cases hl0 : l = 0
                    · refine grows _ #[] (h.put b .none) (H.kill b) hfit (by rw [hl0]; simp) (old0 hl0) (fun q v hq hv => ?_)
                      exact grown_rel (oldA := #[]) (fun j v hj _ => by rw [hl0] at hj; omega) (by rw [hl0]; simp) hnew hnl q v hq hv
                    · obtain ⟨oldA, b1, b2, b3⟩ := olds c k e' false hb hl0 hle'
                      exact grows _ oldA (h.put b .none) (H.kill b) hfit b1 b2 (fun q v hq hv => grown_rel b3 b1 hnew hnl q v hq hv)
                · rw [decide_eq_false hle]; trivial
              · rw [decide_eq_false hee]; trivial
        · trivial
    · trivial
  · trivial
end
end Go.Ev
namespace Go.Ev
open Go Go.RowKit
variable {α β : Type}
section
variable {P : Program} {B : Bd} {M : Mp} {w : World} {h : AH}

theorem two_of {ts : Array Nat} {a b : Nat} (e : ts.toList = [a, b]) : ts = #[a, b] := by cases ts; simpa using e
theorem append_sound {ts : Array Nat} {ty : Nat} {args : List AV} {args' : Array Value} (hl : LRel M args args'.toList) (H : HRel P B M h w) : SV P B M w (Builtin.append_ ts ty args') (appendOp P ts.toList args h) := by
  unfold appendOp
  split
  · rename_i t0 t1 s x hts
    have := two_of hts; subst this
    obtain ⟨y, y2, rfl, hs, hx⟩ : ∃ y y2, args' = #[y, y2] ∧ VRel M s y ∧ VRel M x y2 := by
      obtain ⟨l'⟩ := args'
      cases hl with
      | cons h1 t => cases t with
        | cons h2 t2 => cases t2; exact ⟨_, _, rfl, h1, h2⟩
    rcases notInt_split (P := P) t1 OR.fail (sliceA P t0 .fail fun e => sizeA P e .fail fun z => zeroA P e .fail fun zv => cond (Nat.beq z (lenL zv.cells)) (slCells x z h .fail fun new n => cond (Nat.beq n 0) (s.elimSl .fail (.val s h) fun _ _ _ _ => .val s h) (cond (allL AV.one new) (append2 P e z s new n h) .fail)) .fail) with ⟨⟨u, h1, h1'⟩, e1⟩ | e1 <;> rw [e1]
    · rcases sliceA_split (P := P) t0 OR.fail (fun e => sizeA P e .fail fun z => zeroA P e .fail fun zv => cond (Nat.beq z (lenL zv.cells)) (slCells x z h .fail fun new n => cond (Nat.beq n 0) (s.elimSl .fail (.val s h) fun _ _ _ _ => .val s h) (cond (allL AV.one new) (append2 P e z s new n h) .fail)) .fail) with ⟨e, hu, e1⟩ | e1 <;> rw [e1]
      · rcases sizeA_split (P := P) e OR.fail (fun z => zeroA P e .fail fun zv => cond (Nat.beq z (lenL zv.cells)) (slCells x z h .fail fun new n => cond (Nat.beq n 0) (s.elimSl .fail (.val s h) fun _ _ _ _ => .val s h) (cond (allL AV.one new) (append2 P e z s new n h) .fail)) .fail) with ⟨i, hi, e1⟩ | e1 <;> rw [e1]
        · rcases zeroA_split (P := P) e OR.fail (fun zv => cond (Nat.beq i.size (lenL zv.cells)) (slCells x i.size h .fail fun new n => cond (Nat.beq n 0) (s.elimSl .fail (.val s h) fun _ _ _ _ => .val s h) (cond (allL AV.one new) (append2 P e i.size s new n h) .fail)) .fail) with ⟨i2, zv, hi2, hzv, e1⟩ | e1 <;> rw [e1]
          · rw [hi] at hi2; cases hi2
            rw [beqN, lenL_eq]
            by_cases hzs : i.size = (ofConst zv).cells.length
            · rw [decide_eq_true hzs, cond_true]
              have hzs' : zv.cells.size = i.size := by have := (ofConst_cells (M := M) zv).length; simp at this; omega
              rcases slCells_split hx i.size H OR.fail (fun new n => cond (Nat.beq n 0) (s.elimSl .fail (.val s h) fun _ _ _ _ => .val s h) (cond (allL AV.one new) (append2 P e i.size s new n h) .fail)) with ⟨new, n, hlen, hlo, hfc, e2⟩ | e2 <;> rw [e2]
              · obtain ⟨newA, hfc1, hnew⟩ := hfc n (Nat.le_refl _)
                rw [List.take_of_length_le (by omega)] at hnew
                rw [beqN]
                by_cases hn0 : n = 0
                · rw [decide_eq_true hn0, cond_true]
                  subst hn0
                  rcases sl_split hs OR.fail (.val s h) (fun _ _ _ _ => .val s h) with ⟨rfl, rfl, e3⟩ | ⟨b, o, l, cap, p, ad, ccap, rfl, rfl, hp, hl, hm, hk, hA, hz, e3⟩ | e3 <;> rw [e3]
                  · exact .here H (append_none (ty := ty) hu hi h1 h1' (hlo w rfl) (hfc1 w rfl)) .sl0
                  · have hn : newA = #[] := by
                      have := hnew.length
                      have h2 : new.length = 0 := by omega
                      have : newA.size = 0 := by simpa [h2] using this
                      exact Array.eq_empty_of_size_eq_zero this
                    subst hn
                    have hst : (storeCells (ad.add (l * i.size)) (#[] : Array Value).toList).run P w = .ok () w := rfl
                    have := append_fits_some (P := P) (ty := ty) (sCap := ccap) hu hi h1 h1' (hlo w rfl) (by omega) (hfc1 w rfl) hst
                    exact .here H this (.sl hp hl hm hk hA hz)
                  · trivial
                · rw [decide_eq_false hn0, cond_false, allL_eq]
                  cases hone : new.all AV.one with
                  | false => trivial
                  | true =>
                    rw [cond_true]
                    exact append2_sound hu hi rfl hzv hzs' h1 h1' hs hlo hfc1 hnew hlen hn0 hone H
              · trivial
            · rw [decide_eq_false hzs]; trivial
          · trivial
        · trivial
      · trivial
    · trivial
  · trivial
theorem copy_sound {ts : Array Nat} {ty : Nat} {args : List AV} {args' : Array Value} (hl : LRel M args args'.toList) (H : HRel P B M h w) : SV P B M w (Builtin.copy_ ts ty args') (copyOp P ts.toList args h) := by
  unfold copyOp
  split
  · rename_i t0 t1 trest d x hts
    have h0 : ts[0]? = some t0 := by rw [← Array.getElem?_toList, hts]; rfl
    obtain ⟨y, y2, rfl, hd, hx⟩ : ∃ y y2, args' = #[y, y2] ∧ VRel M d y ∧ VRel M x y2 := by
      obtain ⟨l'⟩ := args'
      cases hl with
      | cons h1 t => cases t with
        | cons h2 t2 => cases t2; exact ⟨_, _, rfl, h1, h2⟩
    rcases sliceA_split (P := P) t0 OR.fail (fun e => sizeA P e .fail fun z => slCells x z h .fail fun new n =>
      d.elimSl .fail (.val (.int .i64 (Int.ofNat 0)) h) fun b o l _ => fN (minN n l) fun m => cond (Nat.beq m 0) (.val (.int .i64 (Int.ofNat 0)) h) (h.write P b o (takeL (Nat.mul m z) new) .fail fun h => .val (.int .i64 (Int.ofNat m)) h)) with ⟨e, hu, e1⟩ | e1 <;> rw [e1]
    · rcases sizeA_split (P := P) e OR.fail (fun z => slCells x z h .fail fun new n =>
        d.elimSl .fail (.val (.int .i64 (Int.ofNat 0)) h) fun b o l _ => fN (minN n l) fun m => cond (Nat.beq m 0) (.val (.int .i64 (Int.ofNat 0)) h) (h.write P b o (takeL (Nat.mul m z) new) .fail fun h => .val (.int .i64 (Int.ofNat m)) h)) with ⟨i, hi, e1⟩ | e1 <;> rw [e1]
      · rcases slCells_split hx i.size H OR.fail (fun new n =>
          d.elimSl .fail (.val (.int .i64 (Int.ofNat 0)) h) fun b o l _ => fN (minN n l) fun m => cond (Nat.beq m 0) (.val (.int .i64 (Int.ofNat 0)) h) (h.write P b o (takeL (Nat.mul m i.size) new) .fail fun h => .val (.int .i64 (Int.ofNat m)) h)) with ⟨new, n, hlen, hlo, hfc, e2⟩ | e2 <;> rw [e2]
        · rcases sl_split hd OR.fail (.val (.int .i64 (Int.ofNat 0)) h) (fun b o l _ => fN (minN n l) fun m => cond (Nat.beq m 0) (.val (.int .i64 (Int.ofNat 0)) h) (h.write P b o (takeL (Nat.mul m i.size) new) .fail fun h => .val (.int .i64 (Int.ofNat m)) h)) with ⟨rfl, rfl, e3⟩ | ⟨b, o, l, cap, p, ad, ccap, rfl, rfl, hp, hl', hm, hk, hA, hz, e3⟩ | e3 <;> rw [e3]
          · obtain ⟨newA, hfc1, hnew⟩ := hfc 0 (by omega)
            have hmin : Nat.min n 0 = 0 := Nat.min_zero n
            exact .here H (v' := .int .i64 0) (by simp [Builtin.copy_, h0, run_underlying hu, hlo w rfl, run_sizeOf' hi, hfc1 w rfl, goInt]) (.int _ _)
          · rw [fN_eq, minN_eq, beqN]
            obtain ⟨newA, hfc1, hnew⟩ := hfc (min n l) (by omega)
            have hfc1' : (Builtin.firstCells i.size (Nat.min n l) y2).run P w = .ok newA w := hfc1 w rfl
            by_cases hm0 : min n l = 0
            · rw [decide_eq_true hm0, cond_true]
              have hn : newA = #[] := by
                have := hnew.length
                rw [hm0] at this
                have : newA.size = 0 := by simpa using this
                exact Array.eq_empty_of_size_eq_zero this
              subst hn
              exact .here H (v' := .int .i64 0) (by simp [Builtin.copy_, h0, run_underlying hu, hlo w rfl, run_sizeOf' hi, hm0, (show (Builtin.firstCells i.size 0 y2).run P w = .ok #[] w by rw [← hm0]; exact hfc1 w rfl), storeCells, goInt]) (.int _ _)
            · rw [decide_eq_false hm0, cond_false, takeL_eq]
              have hA' := hA (by omega)
              subst hA'
              rcases write_split H b o hp (l := new.take (Nat.mul (min n l) i.size)) (l' := newA.toList) (fun _ => hnew) OR.fail (fun h => .val (.int .i64 (Int.ofNat (min n l))) h) with ⟨h', a1, a2, a3, a4, e4⟩ | e4 <;> rw [e4]
              · refine ⟨M, .int .i64 (Int.ofNat (min n l)), _, ?_, Mp.le.refl M, .int _ _, a2, a3⟩
                simp [Builtin.copy_, h0, run_underlying hu, hlo w rfl, run_sizeOf' hi, hfc1', a1, goInt]
              · trivial
          · trivial
        · trivial
      · trivial
    · trivial
  · trivial
end
end Go.Ev
namespace Go.Ev
open Go Go.RowKit
variable {α β : Type}
section
variable {P : Program} {B : Bd} {M : Mp} {w : World} {h : AH}

theorem len_sound {ts : Array Nat} {ty t : Nat} (ht : ts[0]? = some t) {x : AV} {y : Value} (hx : VRel M x y) (H : HRel P B M h w) : SV P B M w (Builtin.len_ ts ty #[y]) (lenOp P t x h) := by
  unfold lenOp
  split
  · rename_i hu
    rcases str_split hx OR.fail (fun l => .val (.int .i64 (Int.ofNat (lenL l))) h) with ⟨s, rfl, rfl, e⟩ | e <;> rw [e]
    · rw [lenL_eq, natsOf_size]
      exact .here H (v' := .int .i64 (Int.ofNat s.size)) (by simp [Builtin.len_, ht, run_underlying hu, goInt]) (.int _ _)
    · trivial
  · rename_i e hu
    rcases sl_split hx OR.fail (.val (.int .i64 (Int.ofNat 0)) h) (fun _ _ n _ => .val (.int .i64 (Int.ofNat n)) h) with ⟨rfl, rfl, e⟩ | ⟨b, o, l, cap, p, ad, ccap, rfl, rfl, hp, hl, hm, hk, hA, hz, e⟩ | e <;> rw [e]
    · exact .here H (v' := .int .i64 (Int.ofNat 0)) (by simp [Builtin.len_, ht, run_underlying hu, goInt]) (.int _ _)
    · exact .here H (v' := .int .i64 (Int.ofNat l)) (by simp [Builtin.len_, ht, run_underlying hu, goInt]) (.int _ _)
    · trivial
  · rename_i n e hu
    exact .here H (v' := .int .i64 (Int.ofNat n)) (by simp [Builtin.len_, ht, run_underlying hu, goInt]) (.int _ _)
  · rename_i k e hu
    split
    · cases hx
      exact .here H (v' := .int .i64 (Int.ofNat 0)) (by simp [Builtin.len_, ht, run_underlying hu, goInt]) (.int _ _)
    · rename_i b
      cases hb : h.at_ b with
      | map es =>
        cases hx with
        | mp hp =>
          rename_i p
          have hr := H.blk b p hp (by rw [hb]; simp)
          rw [hb] at hr
          obtain ⟨es', cl, h1, h2⟩ := hr
          have hlen : es'.size = es.length := by
            have : ∀ {l : List (AV × AV)} {l' : List MapEntry}, ERel M l l' → l'.length = l.length := by
              intro l l' he
              induction he with
              | nil => rfl
              | cons _ _ _ ih => simp [ih]
            simpa using this h2
          show SV P B M w _ (.val (.int .i64 (Int.ofNat (lenL es))) h)
          rw [lenL_eq]
          exact .here H (v' := .int .i64 (Int.ofNat es.length)) (by simp [Builtin.len_, ht, run_underlying hu, goInt, getObj, Sem.run, h1, hlen]) (.int _ _)
      | _ => trivial
    · trivial
  · trivial
theorem cap_sound {ts : Array Nat} {ty t : Nat} (ht : ts[0]? = some t) {x : AV} {y : Value} (hx : VRel M x y) (H : HRel P B M h w) : SV P B M w (Builtin.cap_ ts ty #[y]) (capOp P t x h) := by
  unfold capOp
  split
  · rename_i e hu
    rcases sl_split hx OR.fail (.val (.int .i64 (Int.ofNat 0)) h) (fun _ _ _ c => Option.rec (motive := fun _ => OR) .fail (fun c => .val (.int .i64 (Int.ofNat c)) h) c) with ⟨rfl, rfl, e⟩ | ⟨b, o, l, cap, p, ad, ccap, rfl, rfl, hp, hl, hm, hk, hA, hz, e⟩ | e <;> rw [e]
    · exact .here H (v' := .int .i64 (Int.ofNat 0)) (by simp [Builtin.cap_, ht, run_underlying hu, goInt]) (.int _ _)
    · cases cap with
      | none => trivial
      | some c =>
        have := hk c rfl; subst this
        exact .here H (v' := .int .i64 (Int.ofNat ccap)) (by simp [Builtin.cap_, ht, run_underlying hu, goInt]) (.int _ _)
    · trivial
  · trivial
theorem minMax_go (mx : Bool) (f : Value → Value → Sem Value) (hf : ∀ k k' n m, f (.int k n) (.int k' m) = pure (.int k (cond (cond mx (ltI n m) (ltI m n)) m n))) (k : IntKind) (H : HRel P B M h w) :
    ∀ (t : List AV) (t' : List Value), LRel M t t' → ∀ n : Int,
      SV P B M w (t'.foldlM f (.int k n)) (List.rec (motive := fun _ => Int → OR) (fun n => .val (.int k n) h) (fun y _ ih n => y.elimInt .fail fun _ m => ih (cond (cond mx (ltI n m) (ltI m n)) m n)) t n)
  | _, _, .nil, n => .here H rfl (.int _ _)
  | y :: t, y' :: t', .cons hy ht, n => by
    cases hy with
    | int k' m =>
      have ih := minMax_go mx f hf k H t t' ht (cond (cond mx (ltI n m) (ltI m n)) m n)
      rw [List.foldlM_cons, hf, pure_bind]
      exact ih
    | _ => trivial
theorem minMax_sound (mx : Bool) {ts : Array Nat} {ty : Nat} {args : List AV} {args' : Array Value} (hl : LRel M args args'.toList) (H : HRel P B M h w) : SV P B M w (cond mx (Builtin.max_ ts ty args') (Builtin.min_ ts ty args')) (minMax mx args h) := by
  obtain ⟨l'⟩ := args'
  cases hl with
  | nil => trivial
  | cons hx ht =>
    rename_i x x' t t'
    cases hx with
    | int k n =>
      cases mx with
      | true =>
        refine minMax_go true Builtin.max2 (fun k k' n m => ?_) k H t t' ht n
        simp only [Builtin.max2, cond_true, ltI_eq]
        by_cases hc : n < m
        · simp [hc]
        · simp [hc]
      | false =>
        refine minMax_go false Builtin.min2 (fun k k' n m => ?_) k H t t' ht n
        simp only [Builtin.min2, cond_false, ltI_eq]
        by_cases hc : m < n
        · simp [hc]
        · simp [hc]
    | _ => trivial
theorem sliceData_sound {ts : Array Nat} {ty : Nat} {x : AV} {y : Value} (hx : VRel M x y) (H : HRel P B M h w) : SV P B M w (Builtin.unsafeSliceData_ ts ty #[y]) (sliceDataOp x h) := by
  unfold sliceDataOp
  rcases sl_split hx OR.fail (.val .ptr0 h) (fun b o n _ => cond (Nat.beq n 0) .fail (.val (.ptr b o) h)) with ⟨rfl, rfl, e⟩ | ⟨b, o, l, cap, p, ad, ccap, rfl, rfl, hp, hl, hm, hk, hA, hz, e⟩ | e <;> rw [e]
  · exact .here H (v' := .pointer none) rfl .ptr0
  · rw [beqN]
    by_cases h0 : l = 0
    · rw [decide_eq_true h0]; trivial
    · rw [decide_eq_false h0, cond_false]
      have hne : ccap ≠ 0 := by omega
      have hA' := hA hne
      subst hA'
      exact .here H (v' := .pointer (some ⟨p.cb, p.base + o, none⟩)) (by
        show Sem.run P (if ccap ≠ 0 then pure (Value.pointer (some ⟨p.cb, p.base + o, none⟩)) else _) w = _
        rw [if_pos hne]; rfl) (.ptr hp)
  · trivial
theorem ptrA_split (t : Nat) (d : β) (f : Nat → β) : (∃ e, P.underlying t = some (.pointer e) ∧ ptrA P t d f = f e) ∨ ptrA P t d f = d := by
  unfold ptrA
  split
  · rename_i e hu; exact .inl ⟨e, hu, rfl⟩
  · exact .inr rfl
theorem loadBytes_run {arr : Array Value} {e : Nat} {f : Nat × Nat} {k : Nat} (hh : w.heap[k]? = some (.cells arr e f)) : ∀ (ns : List Nat) (o : Nat) (acc : ByteArray),
    (∀ i n, ns[i]? = some n → arr[o + i]? = some (.int .u8 (Int.ofNat n))) → (loadBytes ⟨k, o, none⟩ acc ns.length).run P w = .ok ((ns.map Int.ofNat).foldl (fun r n => r.push (UInt8.ofNat n.toNat)) acc) w
  | [], o, acc, _ => rfl
  | n :: ns, o, acc, hg => by
    have h0 := hg 0 n rfl
    have ha : (⟨k, o, none⟩ : Addr).add 1 = ⟨k, o + 1, none⟩ := rfl
    have ih := loadBytes_run hh ns (o + 1) (acc.push (UInt8.ofNat (Int.ofNat n).toNat)) (fun i m hi => by
      have := hg (i + 1) m (by simpa using hi)
      rwa [show o + (i + 1) = o + 1 + i by omega] at this)
    rw [Nat.add_zero] at h0
    simp only [List.length_cons, loadBytes, Sem.run_bind, run_load, cell_of hh, h0, Result.andThen_ok, ha, List.map_cons, List.foldl_cons]
    exact ih
/-- As the shelf's 'run_unsafeString_row' has it, at any place of a row. -/
theorem run_unsafeString_at {ts : Array Nat} {ty t u : Nat} {k : IntKind} (ht : ts[0]? = some t) (hu : P.underlying t = some (.pointer u)) (a : Addr) (n : Nat) (h0 : n ≠ 0) (hmx : n ≤ 1000000) {s : ByteArray}
    (hv : (variablesAt a u n).run P w = .ok true w) (hl : (loadBytes a .empty n).run P w = .ok s w) :
    (Builtin.unsafeString_ ts ty #[.pointer (some a), .int k (Int.ofNat n)]).run P w = .ok (.string s) (w.freeze a n) := by
  have hdef : Builtin.unsafeString_ ts ty #[.pointer (some a), .int k (Int.ofNat n)] =
      (do
        let n ← asInt (.int k (Int.ofNat n))
        let some pt := ts[0]? | stuck "unsafe.String: no argument types"
        if n < 0 then runtimePanic (.error "unsafe.String: len out of range")
        if n > IntKind.i64.max then unsupported (.unsafePointer "String: a length above the largest int")
        if n = 0 then pure (.string .empty)
        else if ← variablesAt a (← elemOf pt) n.toNat then do
          let s ← loadBytes a .empty n.toNat
          freeze a n.toNat
          pure (.string s)
        else unsupported (.unsafePointer "String: not so many bytes at ptr")) := rfl
  have h63 : IntKind.i64.max = 9223372036854775807 := rfl
  have hmx3 : ¬ ((9223372036854775807 : Int) < (n : Int)) := by omega
  have hneg : ¬ ((n : Int) < 0) := by omega
  rw [hdef]
  simp [ht, asInt, asIntOf, h63, h0, hneg, hmx3, elemOf, run_underlying hu, hv, hl]
theorem run_unsafeString_empty {ts : Array Nat} {ty t : Nat} {k : IntKind} (ht : ts[0]? = some t) (p : Option Addr) : (Builtin.unsafeString_ ts ty #[.pointer p, .int k (Int.ofNat 0)]).run P w = .ok (.string .empty) w := by
  obtain ⟨l⟩ := ts
  cases l with
  | nil => simp at ht
  | cons t0 l =>
    cases p with
    | none => rfl
    | some a => rfl
theorem unsafeString_sound {ts : Array Nat} {ty t : Nat} (ht : ts[0]? = some t) {x n : AV} {x' n' : Value} (hx : VRel M x x') (hn : VRel M n n') (H : HRel P B M h w) : SV P B M w (Builtin.unsafeString_ ts ty #[x', n']) (unsafeStringOp P t x n h) := by
  unfold unsafeStringOp
  rcases natA_split hn OR.fail (fun n => cond (Nat.beq n 0) (emptyStr x h)
    (x.elimPtr .fail fun b o => (h.at_ b).elimCells .fail fun c m e _ => cond (Nat.blt b P.globals.size) .fail (cond (cond (Nat.ble n 1000000) (Nat.ble (Nat.add o n) m) false) (ptrA P t .fail fun u => sizeA P e .fail fun s => cond (cond (Nat.beq s 1) (Nat.beq u e) false) (bytesL (getL c n o) .fail fun l => .val (.str l) (h.put b (.cells c m e true))) .fail) .fail))) with ⟨kn, n, rfl, rfl, e1⟩ | e1 <;> rw [e1]
  · rw [beqN]
    by_cases h0 : n = 0
    · rw [decide_eq_true h0, cond_true]
      subst h0
      unfold emptyStr
      split
      · cases hx
        exact .here H (v' := .string .empty) (run_unsafeString_empty ht _) (.str .empty)
      · cases hx
        exact .here H (v' := .string .empty) (run_unsafeString_empty ht _) (.str .empty)
      · trivial
    · rw [decide_eq_false h0, cond_false]
      rcases AV.ptr_split hx OR.fail (fun b o => (h.at_ b).elimCells .fail fun c m e _ => cond (Nat.blt b P.globals.size) .fail (cond (cond (Nat.ble n 1000000) (Nat.ble (Nat.add o n) m) false) (ptrA P t .fail fun u => sizeA P e .fail fun s => cond (cond (Nat.beq s 1) (Nat.beq u e) false) (bytesL (getL c n o) .fail fun l => .val (.str l) (h.put b (.cells c m e true))) .fail) .fail)) with ⟨b, o, p, rfl, hp, rfl, e2⟩ | e2 <;> rw [e2]
      · rcases Blk.cells_split (h.at_ b) OR.fail (fun c m e _ => cond (Nat.blt b P.globals.size) .fail (cond (cond (Nat.ble n 1000000) (Nat.ble (Nat.add o n) m) false) (ptrA P t .fail fun u => sizeA P e .fail fun s => cond (cond (Nat.beq s 1) (Nat.beq u e) false) (bytesL (getL c n o) .fail fun l => .val (.str l) (h.put b (.cells c m e true))) .fail) .fail)) with ⟨c, m, e, z, hb, e3⟩ | e3 <;> rw [e3]
        · rw [bltN, bleN, bleN]
          by_cases hg : b < P.globals.size
          · rw [decide_eq_true hg]; trivial
          · rw [decide_eq_false hg, cond_false]
            by_cases hn6 : n ≤ 1000000
            · rw [decide_eq_true hn6, cond_true]
              by_cases hle : Nat.add o n ≤ m
              · rw [decide_eq_true hle, cond_true]
                have hle' : o + n ≤ m := hle
                rcases ptrA_split (P := P) t OR.fail (fun u => sizeA P e .fail fun s => cond (cond (Nat.beq s 1) (Nat.beq u e) false) (bytesL (getL c n o) .fail fun l => .val (.str l) (h.put b (.cells c m e true))) .fail) with ⟨u, hu, e9⟩ | e9 <;> rw [e9]
                · rcases sizeA_split (P := P) e OR.fail (fun s => cond (cond (Nat.beq s 1) (Nat.beq u e) false) (bytesL (getL c n o) .fail fun l => .val (.str l) (h.put b (.cells c m e true))) .fail) with ⟨i, hi, e4⟩ | e4 <;> rw [e4]
                  · rw [beqN, beqN]
                    by_cases hs1 : i.size = 1
                    · rw [decide_eq_true hs1, cond_true]
                      by_cases hue : u = e
                      · rw [decide_eq_true hue, cond_true]
                        subst hue
                        obtain ⟨q, arr, fz, hq, hh, hsz, hzq, hkn, hc, hf⟩ := H.cells hb hp
                        rw [hp] at hq; cases hq
                        have hrel := getL_rel hc hle'
                        rcases bytesL_split OR.fail _ _ hrel (fun l => .val (.str l) (h.put b (.cells c m u true))) with ⟨ns, h1, h2, h3, e5⟩ | e5 <;> rw [e5]
                        · have hB : B.n ≤ p.cb := (H.own b p hp).resolve_left hg
                          have hlen : ns.length = n := by rw [h2, getL_eq]; simp
                          have hcells : ∀ i' m', ns[i']? = some m' → arr[p.base + o + i']? = some (.int .u8 (Int.ofNat m')) := by
                            intro i' m' hi'
                            have hlt : i' < n := by
                              have := (List.getElem?_eq_some_iff.1 hi').1; omega
                            have e6 : ((List.range n).map fun j => (arr[p.base + o + j]?).getD undef)[i']? = some (.int .u8 (Int.ofNat m')) := by
                              rw [h3]; simp [hi']
                            simp only [List.getElem?_map, List.getElem?_range hlt, Option.map_some, Option.some.injEq] at e6
                            obtain ⟨v', a1, _⟩ := hc (o + i') (by omega)
                            rw [← Nat.add_assoc] at a1
                            rw [a1] at e6 ⊢
                            simpa using e6
                          have hlb := loadBytes_run (P := P) hh ns (p.base + o) .empty hcells
                          rw [hlen] at hlb
                          have hn := foldl_push_nats ns ByteArray.empty h1
                          have e0 : natsOf ByteArray.empty = [] := rfl
                          rw [e0, List.nil_append] at hn
                          have hv := VRel.str (M := M) ((ns.map Int.ofNat).foldl (fun r n => r.push (UInt8.ofNat n.toNat)) ByteArray.empty)
                          rw [hn] at hv
                          have hdep : ∃ d, P.depth = d + 1 := ⟨2 * (P.types.size + Made.depth) + 1, rfl⟩
                          obtain ⟨d, hd⟩ := hdep
                          have hce : P.cellsOf u = 1 := by rw [cellsOf_eq hi, hs1]
                          have hva : (variablesAt ⟨p.cb, p.base + o, none⟩ u n).run P w = .ok true w := by
                            have hsh : w.shape? p.cb = some (u, arr.size) := by simp [World.shape?, hh]
                            have hla : liesAt P P.depth u (arr.size / P.cellsOf u) (p.base + o) u n = true := by
                              rw [hce, Nat.div_one, hd]
                              unfold liesAt
                              rw [hd]
                              unfold rowAt
                              rw [hce]
                              have hsl : sameLayout P (d + 1) u u = true := by unfold sameLayout; simp
                              have : p.base + o + n ≤ arr.size := by omega
                              simp [hsl, this, Nat.mod_one]
                            simp only [variablesAt, Sem.run_bind, run_program, Result.andThen_ok, run_shape, hsh, Sem.run_pure, hla]
                          have hfr : ∀ w2 : World, w2 = w.freeze ⟨p.cb, p.base + o, none⟩ n → ∃ fz', w2.heap[p.cb]? = some (.cells arr u fz') ∧ w2.heap.size = w.heap.size ∧ (∀ k, k ≠ p.cb → w2.heap[k]? = w.heap[k]?) ∧ w2.os = w.os ∧ w2.tape = w.tape ∧ w2.output = w.output := by
                            rintro w2 rfl
                            unfold World.freeze
                            rw [if_neg h0]
                            refine ⟨_, by simp only [Array.getElem?_modify, hh, Option.map_some, if_true]; rfl, by simp, fun k hk => by simp [Array.getElem?_modify, Ne.symm hk], rfl, rfl, rfl⟩
                          obtain ⟨fz', b1, b2, b3, b4, b5, b6⟩ := hfr _ rfl
                          have hal : h.at_ b ≠ .none := by rw [hb]; simp
                          have hput := H.put (w' := w.freeze ⟨p.cb, p.base + o, none⟩ n) hp b2 b3 hal (.cells c m u true) ⟨arr, fz', b1, hsz, hzq, hkn, hc, fun e => by cases e⟩
                          refine ⟨M, _, _, ?_, Mp.le.refl M, hv, hput, ⟨b4, b5, b6, by omega, fun k hk => b3 k (by omega)⟩⟩
                          exact run_unsafeString_at ht hu _ n h0 hn6 hva hlb
                        · trivial
                      · rw [decide_eq_false hue]; trivial
                    · rw [decide_eq_false hs1]; trivial
                  · trivial
                · trivial
              · rw [decide_eq_false hle]; trivial
            · rw [decide_eq_false hn6]; trivial
        · trivial
      · trivial
  · trivial

/-! ### panics, iterators and others -/
theorem panic_sound {x : AV} {y : Value} (hx : VRel M x y) (H : HRel P B M h w) (r : OR) (hr : panicOp x h = r) : SN P B M w (do pure (.value (← Instr.panic y))) r := by
  subst hr
  cases hx with
  | ifc t hv => exact ⟨_, rfl, .ifc t hv, H⟩
  | _ => trivial
theorem nilCheck_sound {o : Oper} {X : Operand} {ρ : Operand → Value} (ho : o.op = .nilCheck X) {x : AV} (hx : VRel M x (ρ X)) (H : HRel P B M h w) : SN P B M w (execOp ρ o) (nilCheckOp x h) := by
  obtain ⟨y, hy⟩ : ∃ y, ρ X = y := ⟨_, rfl⟩
  rw [hy] at hx
  unfold execOp
  rw [ho]
  simp only [hy]
  cases hx with
  | ptr hp => exact ⟨M, _, w, rfl, Mp.le.refl M, .ptr hp, H, Below.refl B.n w⟩
  | func fn ha hc =>
    cases fn with
    | func g => exact ⟨M, _, w, rfl, Mp.le.refl M, .func _ ha hc, H, Below.refl B.n w⟩
    | _ => trivial
  | _ => trivial
theorem makeIfc_sound (t : Nat) {x : AV} {y : Value} (hx : VRel M x y) (H : HRel P B M h w) : SV P B M w (Instr.makeInterface t y) (makeIfcOp P t x h) := by
  unfold makeIfcOp
  split
  · trivial
  · trivial
  · rename_i h1 h2
    cases hu : P.underlying t with
    | none => exact absurd hu h2
    | some u =>
      refine .here H (v' := .iface t y) ?_ (.ifc t hx)
      cases u with
      | interface ms => exact absurd hu (h1 ms)
      | _ => simp [Instr.makeInterface, run_underlying hu]
theorem range_sound (t : Nat) {x : AV} {y : Value} (hx : VRel M x y) (H : HRel P B M h w) : SV P B M w (Instr.range t y) (rangeOp P t x h) := by
  unfold rangeOp
  split
  · rename_i hu
    rcases str_split hx OR.fail (fun l => h.alloc (.iter l 0) fun b h => .val (.ptr b 0) h) with ⟨s, rfl, rfl, e⟩ | e <;> rw [e]
    · rw [AH.alloc_eq]
      refine ⟨_, .pointer (some ⟨w.heap.size, 0, none⟩), _, by simp [Instr.range, run_underlying hu], Mp.le_next H ⟨w.heap.size, 0, 0, 0⟩, ?_, H.alloc (.stringIter s 0) ⟨w.heap.size, 0, 0, 0⟩ rfl (.iter (natsOf s) 0) ⟨s, rfl, by simp, by simp, rfl⟩, Below.new H _⟩
      have := VRel.ptr (M := M.ext h.next ⟨w.heap.size, 0, 0, 0⟩) (b := h.next) (off := 0) Mp.ext_self
      simpa using this
    · trivial
  · trivial
theorem decode_ascii (s : ByteArray) (i : Nat) (hi : i < s.size) (ha : (s[i]'hi).toNat < 128) : Utf8.decode s i = ((s[i]'hi).toNat, 1) := by
  have hg : (s.get! (i + 0)).toNat = (s[i]'hi).toNat := by
    congr 1
    rw [Nat.add_zero]
    show s.data[i]! = s.data[i]
    exact getElem!_pos s.data i hi
  unfold Utf8.decode
  simp only [hg]
  rw [if_pos (by omega)]
theorem next_sound (isS : Bool) (ty : Nat) {x : AV} {y : Value} (hx : VRel M x y) (H : HRel P B M h w) : SV P B M w (Instr.next y isS ty) (nextOp P x isS h) := by
  unfold nextOp
  rcases AV.ptr_split hx OR.fail (fun b o => cond (cond (Nat.blt b P.globals.size) false (Nat.beq o 0)) ((h.at_ b).elimIter .fail fun l p => cond isS
    (List.rec (motive := fun _ => OR) (.val (.tup [.bool false]) h) (fun x t _ => cond (Nat.blt x 128) (fN (Nat.succ p) fun q => .val (.tup [.bool true, .int .i64 (Int.ofNat p), .int .i32 (Int.ofNat x)]) (h.put b (.iter t q))) .fail) l) .fail) .fail) with ⟨b, o, p, rfl, hp, rfl, e⟩ | e <;> rw [e]
  · rw [beqN, bltN]
    by_cases hg : b < P.globals.size
    · rw [decide_eq_true hg]; trivial
    rw [decide_eq_false hg, cond_false]
    by_cases h0 : o = 0
    · rw [decide_eq_true h0, cond_true]
      subst h0
      cases hb : h.at_ b with
      | iter l pos =>
        cases isS with
        | false => trivial
        | true =>
          have hr := H.blk b p hp (by rw [hb]; simp)
          rw [hb] at hr
          obtain ⟨s, h1, h2, h3, h4⟩ := hr
          have hbase : p.base + 0 = 0 := by omega
          rw [hbase]
          have hget : ∀ w2 : World, w2 = w → (getObj p.cb).run P w2 = .ok (.stringIter s pos) w := by rintro _ rfl; simp [getObj, Sem.run, h1]
          cases l with
          | nil =>
            have : ¬ pos < s.size := by
              intro hlt
              have : (natsOf s).drop pos ≠ [] := by
                intro e
                have := congrArg List.length e
                simp [natsOf_size] at this
                omega
              exact this h2.symm
            show SV P B M w _ (.val (.tup [.bool false]) h)
            refine .here H (v' := .tuple #[.bool false]) ?_ (.tup (.cons (.bool _) .nil))
            simp only [Instr.next, Sem.run_bind, hget w rfl, Result.andThen_ok, this, if_false, Sem.run_pure]
          | cons x t =>
            show SV P B M w _ (cond (Nat.blt x 128) (fN (Nat.succ pos) fun q => .val (.tup [.bool true, .int .i64 (Int.ofNat pos), .int .i32 (Int.ofNat x)]) (h.put b (.iter t q))) .fail)
            rw [bltN, fN_eq]
            by_cases hx : x < 128
            · rw [decide_eq_true hx, cond_true]
              have hlt : pos < s.size := by
                have := congrArg List.length h2
                simp [natsOf_size] at this
                omega
              have hx0 : (s[pos]'hlt).toNat = x := by
                have e1 := natsOf_get s pos hlt
                have e2 : (natsOf s).getD pos 0 = x := by
                  have : ((natsOf s).drop pos).getD 0 0 = x := by rw [← h2]; rfl
                  simpa [List.getD] using this
                omega
              have ht : t = (natsOf s).drop (pos + 1) := by
                have : ((natsOf s).drop pos).tail = t := by rw [← h2]; rfl
                rw [← this, List.tail_drop]
              have hd := decode_ascii s pos hlt (by omega)
              have hset : (setObj p.cb (.stringIter s (pos + 1))).run P w = .ok () { w with heap := w.heap.setIfInBounds p.cb (.stringIter s (pos + 1)) } := by simp [setObj, Sem.run, h1]
              have hcb : p.cb < w.heap.size := (Array.getElem?_eq_some_iff.1 h1).1
              have hal : h.at_ b ≠ .none := by rw [hb]; simp
              have hB : B.n ≤ p.cb := (H.own b p hp).resolve_left hg
              have hput := H.put (w' := { w with heap := w.heap.setIfInBounds p.cb (.stringIter s (pos + 1)) }) hp (by simp) (fun k hk => Array.getElem?_setIfInBounds_ne (Ne.symm hk)) hal (.iter t (pos + 1)) ⟨s, by simp [hcb], ht, by omega, h4⟩
              refine ⟨M, .tuple #[.bool true, .int .i64 (Int.ofNat pos), .int .i32 (Int.ofNat x)], _, ?_, Mp.le.refl M, .tup (.cons (.bool _) (.cons (.int _ _) (.cons (.int _ _) .nil))), hput, ⟨rfl, rfl, rfl, by simp, fun k hk => Array.getElem?_setIfInBounds_ne (by omega)⟩⟩
              simp only [Instr.next, Sem.run_bind, hget w rfl, Result.andThen_ok, hlt, if_true, hd, hset, Sem.run_pure, hx0, goInt]
              rfl
            · rw [decide_eq_false hx]; trivial
      | _ => trivial
    · rw [decide_eq_false h0]; trivial
  · trivial
end
end Go.Ev
namespace Go.Ev
open Go Go.RowKit
variable {α β : Type}
section
variable {P : Program} {B : Bd} {M : Mp} {w : World} {h : AH}

/-- Parts: places and values. -/
inductive PRel (M : Mp) : List (Nat × AV) → List (Nat × Value) → Prop
  | nil : PRel M [] []
  | cons {i : Nat} {v : AV} {v' : Value} {l : List (Nat × AV)} {l' : List (Nat × Value)} (h : VRel M v v') (t : PRel M l l') : PRel M ((i, v) :: l) ((i, v') :: l')
theorem fold_set (off : Nat) : ∀ (l : List Value) (k : Nat) (cs : Array Value), off + k + l.length ≤ cs.size →
    ((l.zipIdx k).foldl (fun cs (x : Value × Nat) => cs.setIfInBounds (off + x.2) x.1) cs).size = cs.size ∧
    ∀ i, ((l.zipIdx k).foldl (fun cs (x : Value × Nat) => cs.setIfInBounds (off + x.2) x.1) cs)[i]? = if off + k ≤ i ∧ i < off + k + l.length then some (l.getD (i - (off + k)) undef) else cs[i]?
  | [], k, cs, _ => ⟨rfl, fun i => by rw [if_neg (by rw [List.length_nil]; omega)]; rfl⟩
  | v :: l, k, cs, hle => by
    have hlen : (v :: l).length = l.length + 1 := rfl
    obtain ⟨h1, h2⟩ := fold_set off l (k + 1) (cs.setIfInBounds (off + k) v) (by rw [Array.size_setIfInBounds]; omega)
    rw [List.zipIdx_cons, List.foldl_cons]
    refine ⟨by rw [h1, Array.size_setIfInBounds], fun i => ?_⟩
    rw [h2]
    by_cases c1 : off + (k + 1) ≤ i ∧ i < off + (k + 1) + l.length
    · rw [if_pos c1, if_pos (by omega)]
      have : i - (off + k) = (i - (off + (k + 1))) + 1 := by omega
      rw [this, List.getD_cons_succ]
    · rw [if_neg c1]
      by_cases c2 : i = off + k
      · subst c2
        rw [if_pos (by omega), Array.getElem?_setIfInBounds_self_of_lt (by omega)]
        simp
      · rw [if_neg (by omega), Array.getElem?_setIfInBounds_ne (Ne.symm c2)]
theorem foldl_zipIdx_toList (off : Nat) (v : Value) (cs : Array Value) : v.cells.zipIdx.foldl (fun cs (x : Value × Nat) => cs.setIfInBounds (off + x.2) x.1) cs = (v.cells.toList.zipIdx 0).foldl (fun cs (x : Value × Nat) => cs.setIfInBounds (off + x.2) x.1) cs := by
  rw [← Array.foldl_toList]
  congr 1
  simp

theorem fill_cons (place : Nat → Option (Nat × Nat)) (cells : Array Value) (i : Nat) (v : Value) (rest : List (Nat × Value)) {off size : Nat} (hp : place i = some (off, size)) (h1 : v.cells.size = size) (h2 : off + size ≤ cells.size) :
    Instr.fill place cells ((i, v) :: rest) = Instr.fill place ((v.cells.toList.zipIdx 0).foldl (fun cs (x : Value × Nat) => cs.setIfInBounds (off + x.2) x.1) cells) rest := by
  have h1' : ¬ (v.cells.size ≠ size) := by omega
  have h2' : ¬ (off + v.cells.size > cells.size) := by omega
  conv => lhs; unfold Instr.fill
  simp only [hp]
  rw [if_neg (by simp only [Bool.or_eq_true, decide_eq_true_eq]; omega)]
  rw [← foldl_zipIdx_toList]
theorem junk_cells {v : AV} (hv : v ≠ .junk) {v' : Value} (h : VRel M v v') : LRel M v.cells v'.cells.toList := h.cells hv
/-- A struct's or an array's cells, filled part by part. -/
theorem fillA_sound (placeA : Nat → Option (Nat × Nat)) (place : Nat → Option (Nat × Nat)) (hpl : ∀ i os, placeA i = some os → place i = some os) : ∀ (ps : List (Nat × AV)) (ps' : List (Nat × Value)), PRel M ps ps' →
    ∀ (cs : List AV) (cs' : Array Value), LRel M cs cs'.toList → ∀ r, fillA placeA cs ps = some r → ∃ r', Instr.fill place cs' ps' = some r' ∧ LRel M r r'.toList
  | _, _, .nil, cs, cs', hc, r, hr => by cases hr; exact ⟨cs', rfl, hc⟩
  | (i, v) :: ps, (_, v') :: ps', .cons hv ht, cs, cs', hc, r, hr => by
    have e0 : fillA placeA cs ((i, v) :: ps) = Option.rec (motive := fun _ => Option (List AV)) none (fun os => cond (Nat.beq (lenL v.cells) os.2) (cond (Nat.ble (Nat.add os.1 os.2) (lenL cs)) (cond (allL AV.one v.cells) (fillA placeA (appL (takeL os.1 cs) (appL v.cells (dropL (Nat.add os.1 os.2) cs))) ps) none) none) none) (placeA i) := rfl
    rw [e0] at hr
    cases hp : placeA i with
    | none => rw [hp] at hr; cases hr
    | some os =>
      rw [hp] at hr
      obtain ⟨off, size⟩ := os
      have hr1 : cond (Nat.beq (lenL v.cells) size) (cond (Nat.ble (Nat.add off size) (lenL cs)) (cond (allL AV.one v.cells) (fillA placeA (appL (takeL off cs) (appL v.cells (dropL (Nat.add off size) cs))) ps) none) none) none = some r := hr
      rw [beqN, bleN, lenL_eq, lenL_eq, allL_eq, takeL_eq, dropL_eq, appL_eq, appL_eq] at hr1
      by_cases h1 : v.cells.length = size
      · rw [decide_eq_true h1, cond_true] at hr1
        by_cases h2 : Nat.add off size ≤ cs.length
        · rw [decide_eq_true h2, cond_true] at hr1
          cases h3 : v.cells.all AV.one with
          | false => rw [h3] at hr1; cases hr1
          | true =>
            rw [h3, cond_true] at hr1
            have hj : size = 0 ∨ v ≠ .junk := by
              right; rintro rfl; cases h3
            have hvj : v ≠ .junk := by rintro rfl; cases h3
            have hvc := hv.cells hvj
            have hvs : v'.cells.size = size := by have := hvc.length; simp at this; omega
            have hcs : cs'.size = cs.length := by have := hc.length; simpa using this
            have h2' : off + size ≤ cs'.size := by have : off + size ≤ cs.length := h2; omega
            obtain ⟨f1, f2⟩ := fold_set off v'.cells.toList 0 cs' (by simp; omega)
            have hnew : LRel M (cs.take off ++ (v.cells ++ cs.drop (off + size))) ((v'.cells.toList.zipIdx 0).foldl (fun cs (x : Value × Nat) => cs.setIfInBounds (off + x.2) x.1) cs').toList := by
              have e1 : ((v'.cells.toList.zipIdx 0).foldl (fun cs (x : Value × Nat) => cs.setIfInBounds (off + x.2) x.1) cs').toList = cs'.toList.take off ++ (v'.cells.toList ++ cs'.toList.drop (off + size)) := by
                apply List.ext_getElem?
                intro i
                rw [Array.getElem?_toList, f2]
                have hl0 : (List.take off cs'.toList).length = off := by simp; omega
                by_cases c1 : i < off
                · rw [if_neg (by omega), List.getElem?_append_left (by omega), List.getElem?_take_of_lt c1]; simp
                · rw [List.getElem?_append_right (by omega), hl0]
                  by_cases c2 : i < off + size
                  · rw [if_pos (by simp; omega), List.getElem?_append_left (by simp; omega)]
                    have hlt : i - off < v'.cells.toList.length := by simp; omega
                    simp only [Nat.add_zero, List.getD, List.getElem?_eq_getElem hlt, Option.getD_some]
                  · rw [if_neg (by simp; omega), List.getElem?_append_right (by simp; omega)]
                    have e9 : off + size + (i - off - v'.cells.toList.length) = i := by simp; omega
                    rw [List.getElem?_drop, e9]; simp
              rw [e1]
              exact LRel.app (LRel.app (hc.drop _) hvc) (hc.take off)
            obtain ⟨r', k1, k2⟩ := fillA_sound placeA place hpl ps ps' ht _ _ hnew r hr1
            exact ⟨r', by rw [fill_cons place cs' i v' ps' (hpl _ _ hp) hvs h2']; exact k1, k2⟩
        · rw [decide_eq_false h2] at hr1; cases hr1
      · rw [decide_eq_false h1] at hr1; cases hr1
theorem placesL_eq : ∀ (fs : List Field) (ps : List (Nat × Nat)), placesL P fs = some ps → fs.mapM (fun f => (P.info? f.type).map fun i => (f.offset, i.size)) = some ps
  | [], ps, h => by cases h; rfl
  | f :: fs, ps, h => by
    have e0 : placesL P (f :: fs) = sizeA P f.type none fun s => Option.rec (motive := fun _ => Option (List (Nat × Nat))) none (fun l => some ((f.offset, s) :: l)) (placesL P fs) := rfl
    rw [e0] at h
    unfold sizeA at h
    cases hi : P.info? f.type with
    | none => rw [hi] at h; cases h
    | some i =>
      rw [hi] at h
      cases hp : placesL P fs with
      | none => rw [hp] at h; cases h
      | some l =>
        rw [hp] at h
        cases h
        simp [List.mapM_cons, hi, placesL_eq fs l hp]
theorem build_sound (t : Nat) {parts : List (Nat × AV)} {parts' : Array (Nat × Value)} (hp : PRel M parts parts'.toList) (H : HRel P B M h w) : SV P B M w (Instr.build t parts') (buildOp P t parts h) := by
  unfold buildOp
  cases hi : P.info? t with
  | none => 
    have : ∀ f : AV → OR, zeroA P t .fail f = .fail := by intro f; unfold zeroA; rw [hi]
    rw [this]; trivial
  | some i =>
    cases hz : i.zero with
    | none =>
      have : ∀ f : AV → OR, zeroA P t .fail f = .fail := by intro f; unfold zeroA; rw [hi]; simp only [hz]
      rw [this]; trivial
    | some z =>
      have : ∀ f : AV → OR, zeroA P t .fail f = f (ofConst z) := by intro f; unfold zeroA; rw [hi]; simp only [hz]
      rw [this]
      split
      · rename_i fs hu
        cases hps : placesL P fs.toList with
        | none => trivial
        | some ps =>
          show SV P B M w _ (Option.rec (motive := fun _ => OR) .fail (fun cs => .val (.agg cs) h) (fillA (nth none (ps.map some)) (ofConst z).cells parts))
          cases hf : fillA (nth none (ps.map some)) (ofConst z).cells parts with
          | none => trivial
          | some cs =>
            obtain ⟨r', h1, h2⟩ := fillA_sound (nth none (ps.map some)) (ps.toArray[·]?) (fun i os e => by rw [nth_some] at e; simpa using e) parts parts'.toList hp _ _ (ofConst_cells z) cs hf
            refine .here H (run_build w t parts' r' ?_) (.agg h2)
            unfold Program.built
            simp only [hi, hu, hz, placesL_eq fs.toList ps hps]
            exact h1
      · rename_i n e hu
        rcases sizeA_split (P := P) e OR.fail (fun s => Option.rec (motive := fun _ => OR) .fail (fun cs => .val (.agg cs) h) (fillA (fun i => some (Nat.mul i s, s)) (ofConst z).cells parts)) with ⟨ie, hie, e1⟩ | e1 <;> rw [e1]
        · cases hf : fillA (fun i => some (Nat.mul i ie.size, ie.size)) (ofConst z).cells parts with
          | none => trivial
          | some cs =>
            obtain ⟨r', h1, h2⟩ := fillA_sound (fun i => some (Nat.mul i ie.size, ie.size)) (fun i => some (i * ie.size, ie.size)) (fun i os e => e) parts parts'.toList hp _ _ (ofConst_cells z) cs hf
            refine .here H (run_build w t parts' r' ?_) (.agg h2)
            unfold Program.built
            simp only [hi, hu, hz, hie]
            exact h1
        · trivial
      · trivial
/-- The cells of a slice that is written, part by part. -/
theorem fillT_sound (s n : Nat) : ∀ (ps : List (Nat × AV)) (ps' : List (Nat × Value)), PRel M ps ps' → ∀ (c : Tr AV) (arr : Array Value), arr.size = n * s → (∀ j v, j < n * s → arr[j]? = some v → VRel M (c.get .junk (toP j)) v) → ∀ r, fillT s n ps c = some r →
    ∃ r', Instr.fill (fun i => some (i * s, s)) arr ps' = some r' ∧ r'.size = n * s ∧ (∀ j v, j < n * s → r'[j]? = some v → VRel M (r.get .junk (toP j)) v)
  | _, _, .nil, c, arr, hs, hc, r, hr => by cases hr; exact ⟨arr, rfl, hs, hc⟩
  | (i, v) :: ps, (_, v') :: ps', .cons hv ht, c, arr, hs, hc, r, hr => by
    have e0 : fillT s n ((i, v) :: ps) c = cond (Nat.beq (lenL v.cells) s) (cond (allL AV.one v.cells) (cond (Nat.blt i n) (fillT s n ps (putL v.cells (Nat.mul i s) c)) none) none) none := rfl
    rw [e0, beqN, lenL_eq, allL_eq, bltN] at hr
    by_cases h1 : v.cells.length = s
    · rw [decide_eq_true h1, cond_true] at hr
      cases h3 : v.cells.all AV.one with
      | false => rw [h3] at hr; cases hr
      | true =>
        rw [h3, cond_true] at hr
        by_cases h2 : i < n
        · rw [decide_eq_true h2, cond_true] at hr
          have hvj : v ≠ .junk := by rintro rfl; cases h3
          have hvc := hv.cells hvj
          have hvs : v'.cells.size = s := by have := hvc.length; simp at this; omega
          have hle : i * s + s ≤ n * s := by rw [← Nat.succ_mul]; exact Nat.mul_le_mul_right s h2
          obtain ⟨f1, f2⟩ := fold_set (i * s) v'.cells.toList 0 arr (by simp; omega)
          obtain ⟨r', k1, k2, k3⟩ := fillT_sound s n ps ps' ht (putL v.cells (i * s) c) _ (by rw [f1, hs]) (fun j u hj hu => by
            rw [f2] at hu
            rw [putL_get]
            by_cases c1 : i * s ≤ j ∧ j < i * s + v.cells.length
            · rw [if_pos c1]
              rw [if_pos (by simp; omega)] at hu
              have hlt : j - i * s < v'.cells.toList.length := by simp; omega
              refine hvc.get _ _ ?_
              rw [← hu]
              simp only [Nat.add_zero, List.getD, List.getElem?_eq_getElem hlt, Option.getD_some]
            · rw [if_neg c1]
              rw [if_neg (by simp; omega)] at hu
              exact hc j u hj hu) r hr
          exact ⟨r', by rw [fill_cons _ arr i v' ps' rfl hvs (by omega)]; exact k1, k2, k3⟩
        · rw [decide_eq_false h2] at hr; cases hr
    · rw [decide_eq_false h1] at hr; cases hr
theorem buildSlice_sound (t n : Nat) {parts : List (Nat × AV)} {parts' : Array (Nat × Value)} (hp : PRel M parts parts'.toList) (H : HRel P B M h w) : SV P B M w (Instr.buildSlice t n parts') (buildSliceOp P t n parts h) := by
  unfold buildSliceOp
  rcases sliceA_split (P := P) t OR.fail (fun e => sizeA P e .fail fun s => cond (cond (Nat.ble n 100000) (Nat.ble (Nat.mul n s) 100000) false) (zeroA P e .fail fun z => cond (Nat.beq s (lenL z.cells)) (
    Option.rec (motive := fun _ => OR) .fail (fun c => h.alloc (.cells c (Nat.mul n s) e false) fun b h => .val (.sl b 0 n (some n)) h)
      (fillT s n parts (repT z.cells s n))) .fail) .fail) with ⟨e, hu, e1⟩ | e1 <;> rw [e1]
  · rcases sizeA_split (P := P) e OR.fail (fun s => cond (cond (Nat.ble n 100000) (Nat.ble (Nat.mul n s) 100000) false) (zeroA P e .fail fun z => cond (Nat.beq s (lenL z.cells)) (
      Option.rec (motive := fun _ => OR) .fail (fun c => h.alloc (.cells c (Nat.mul n s) e false) fun b h => .val (.sl b 0 n (some n)) h)
        (fillT s n parts (repT z.cells s n))) .fail) .fail) with ⟨i, hi, e1⟩ | e1 <;> rw [e1]
    · rw [bleN, bleN]
      by_cases hn5 : n ≤ 100000
      case neg => rw [decide_eq_false hn5]; trivial
      rw [decide_eq_true hn5, cond_true]
      by_cases hle : Nat.mul n i.size ≤ 100000
      · rw [decide_eq_true hle, cond_true]
        have hle' : n * i.size ≤ 100000 := hle
        rcases zeroA_split (P := P) e OR.fail (fun z => cond (Nat.beq i.size (lenL z.cells)) (
          Option.rec (motive := fun _ => OR) .fail (fun c => h.alloc (.cells c (Nat.mul n i.size) e false) fun b h => .val (.sl b 0 n (some n)) h)
            (fillT i.size n parts (repT z.cells i.size n))) .fail) with ⟨j, z, hj, hz, e1⟩ | e1 <;> rw [e1]
        · rw [hi] at hj; cases hj
          rw [beqN, lenL_eq]
          by_cases hs : i.size = (ofConst z).cells.length
          · rw [decide_eq_true hs, cond_true]
            have hzr := ofConst_cells (M := M) z
            have hzs : z.cells.size = i.size := by have := hzr.length; simp at this; omega
            cases hf : fillT i.size n parts (repT (ofConst z).cells i.size n) with
            | none => trivial
            | some c =>
              show SV P B M w _ (h.alloc (.cells c (Nat.mul n i.size) e false) fun b h => .val (.sl b 0 n (some n)) h)
              rw [AH.alloc_eq]
              obtain ⟨r', k1, k2, k3⟩ := fillT_sound (M := M) i.size n parts parts'.toList hp _ ((Array.range (n * i.size)).map (z.cells[· % z.cells.size]!)) (by simp) (fun q v hq hv => by
                rw [repT_get _ _ hs.symm _ _ hq]
                rw [zeros_get z i.size n q hzs hq] at hv
                cases hv
                have hlt : q % i.size < z.cells.toList.length := by
                  have : 0 < i.size := by
                    rcases Nat.eq_zero_or_pos i.size with h | h
                    · rw [h] at hq; simp at hq
                    · exact h
                  have := Nat.mod_lt q this
                  simp; omega
                exact hzr.get _ _ (by simp only [List.getD, List.getElem?_eq_getElem hlt, Option.getD_some])) c hf
              have hN := H.new r' e (0, 0) c (n * i.size) false (by omega) (fun q v hq hv => k3 q v hq hv) (fun _ q _ => by simp)
              have hn6 : n ≤ 9223372036854775807 := by omega
              refine ⟨_, .slice (some ⟨w.heap.size, 0, none⟩) n n, _, ?_, Mp.le_next H _, ?_, hN, Below.new H _⟩
              · have hbig : ¬ (n * i.size > 2 ^ 24) := by omega
                have hr0 : ∀ f : Nat → Value, Array.map f (Array.range 0) = #[] := fun f => by simp
                by_cases h0 : n * i.size = 0
                · rw [h0, hr0] at k1
                  unfold Instr.buildSlice
                  have hbig0 : ¬ (0 > 2 ^ 24) := by omega
                  simp only [Sem.run_bind, run_underlying hu, Result.andThen_ok, run_sizeOf' hi, hbig0, if_false, h0, if_true, Sem.run_pure, hr0, k1, run_newRow]
                · unfold Instr.buildSlice
                  simp only [Sem.run_bind, run_underlying hu, Result.andThen_ok, run_sizeOf' hi, hbig, if_false, h0, run_zero' hi hz, Sem.run_pure, k1, run_newRow]
              · exact .sl (p := ⟨w.heap.size, 0, r'.size, P.cellsOf e⟩) Mp.ext_self (Nat.le_refl _) hn6 (fun c' e => by cases e; rfl) (fun _ => by simp) (fun e => by cases e)
          · rw [decide_eq_false hs]; trivial
        · trivial
      · rw [decide_eq_false hle]; trivial
    · trivial
  · trivial
end
end Go.Ev
