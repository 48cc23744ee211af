/- The row of LitTexts: what the form gives of the world is what the walk asks; the witness; the claim without the card. -/
import Derived.Test.YtgfdfmgocijdgaaGreatDoorRows
import Derived.Test.YtgfdfmgocijdgaaGreatDoorPuI
import Derived.Lib.LaidU8T
import Derived.PinnedBridge
import Derived.Lay
import Derived.ProofKit
import Derived.LaidMore
import Derived.Shelf.Vars
namespace Go.Proofs.YtgfdfmgocijdgaaGreatDoor
open Go.ChangeShapes Go.WideShapes Go.ChangeAt Go.RowKit Go.Lib Go.Shelf Go.Ev

theorem Tryz.own : ownKnob Tryz.prog.godebug = none := by kernel_rfl
theorem gBases : Tryz.prog.globalNamed "indenture/nat.bases" = some 0 := by kernel_rfl
theorem tBases : (Tryz.prog.globals[0]?).map (·.type) = some 102 := by kernel_rfl
theorem uBases : Tryz.prog.underlying 102 = some (.array 4 3) := by kernel_rfl
theorem cBases : Tryz.prog.cellsOf 102 = 4 := by kernel_rfl
theorem cInt : Tryz.prog.cellsOf 3 = 1 := by kernel_rfl
def theLaid : List (String × DataW Unit) := [("unicode/utf8.acceptRanges", Rows.laid_unicode_utf8_acceptRanges), ("indenture/nat.bases", Rows.laid_indenture_nat_bases), ("unicode/utf8.first", Rows.laid_unicode_utf8_first)]
theorem accept_eq : (Rows.laid_unicode_utf8_acceptRanges : DataW Unit) = acceptData := by kernel_rfl
theorem bases_eq : (Rows.laid_indenture_nat_bases : DataW Unit) = tabData .i64 [2, 8, 10, 16] := by kernel_rfl
theorem first_eq : Rows.laid_unicode_utf8_first = firstData := Pinned.utf8First_eq
theorem u8x : U8Extra Tryz.prog Tryz.lays197_ren := ⟨by kernel_rfl, by kernel_rfl, by kernel_rfl, by kernel_rfl, by kernel_rfl, by kernel_rfl, by kernel_rfl⟩
theorem u8t : U8Types Tryz.prog Tryz.lays197_ren := { Tryz.lays197 with }
theorem zero0 : ((begin Tryz.prog (fun _ _ => 0) default).world.heap[0]?).bind Obj.row? = some (#[.int .i64 0, .int .i64 0, .int .i64 0, .int .i64 0], 102) := by kernel_rfl
theorem zero3 : ((begin Tryz.prog (fun _ _ => 0) default).world.heap[3]?).bind Obj.row? = some (#[.int .i64 0], 3) := by kernel_rfl
theorem shaped_max {W : World} (h : W.ShapedOpen Tryz.prog) : EW W :=
  cell_of_shapedOpen_int (g := 3) (t := 3) (k := .i64) h (by rw [glob_size]; decide) zero3 rfl (by kernel_rfl) (by kernel_rfl) (by kernel_rfl)
theorem shaped_big {W : World} (h : W.ShapedOpen Tryz.prog) : 4 ≤ W.heap.size := by
  obtain ⟨m, hm⟩ := shaped_max h
  have := World.block_lt_of_cell? W ⟨3, 0, none⟩ hm
  exact this
theorem bases_at {W : World} (hL : laidMet Tryz.prog theLaid W) : BasesAt W := by
  have h := Lib.laidMet.reads hL (n := "indenture/nat.bases") (d := Rows.laid_indenture_nat_bases) (.tail _ (.head _))
  rw [bases_eq] at h
  obtain ⟨g, t, cs, fuel, p, hg, ht, hv, hd⟩ := h
  obtain rfl := Option.some.inj (gBases.symm.trans hg)
  obtain rfl := Option.some.inj (tBases.symm.trans ht)
  have hcs := cells_of_tab uBases Tryz.underlying3 cInt cBases hd
  intro i hi
  rw [World.var?_cell hg hv i, ← Array.getElem?_toList, hcs]
  match i, hi with
  | 0, _ => rfl
  | 1, _ => rfl
  | 2, _ => rfl
  | 3, _ => rfl
theorem tabs_at {W : World} (hL : laidMet Tryz.prog theLaid W) : Lib.Utf8Tabs 1 2 W :=
  utf8Tabs_of_readsT u8t u8x (first_eq ▸ Lib.laidMet.reads hL (.tail _ (.tail _ (.head _)))) (accept_eq ▸ Lib.laidMet.reads hL (.head _))
theorem hG_at0 (e : Nat) : (hG e).at_ 0 = .cells (putL [.int .i64 (Int.ofNat 2), .int .i64 (Int.ofNat 8), .int .i64 (Int.ofNat 10), .int .i64 (Int.ofNat 16)] 0 .nil) 4 e true := by kernel_rfl
theorem hG_atS (e : Nat) (b : Nat) (hb : b ≠ 0) : (hG e).at_ b = .none := by
  unfold hG AH.at_
  rw [Tr.get_set_other _ _ _ _ _ (toP_ne (Ne.symm hb))]
  exact Tr.get_nil _ _
theorem ig_at {W : World} (hsh : W.ShapedOpen Tryz.prog) (hb : BasesAt W) : IGw Tryz.prog (hG 102) EW W := by
  refine ⟨shaped_max hsh, fun b => if b < 4 then some ⟨b, 0, if b = 0 then 4 else 0, if b = 0 then 4 else 0⟩ else none, ?_⟩
  obtain ⟨cs, hh, hs, _⟩ := hsh.1 0 _ _ (by rw [glob_size]; decide) zero0
  have hbig := shaped_big hsh
  refine ⟨?_, ?_, ?_, ?_, ?_, Nat.le_refl _, ?_, ?_⟩
  · intro b p hp hne
    by_cases h0 : b = 0
    · subst h0
      simp at hp
      subst hp
      rw [hG_at0]
      refine ⟨cs, _, hh, hs, cBases, ?_, ?_, fun h => by cases h⟩
      · have : cs.size = 4 := hs
        simp [this]
      · intro i hi
        have := hb i hi
        refine ⟨.int .i64 ([2, 8, 10, 16].getD i 0), ?_, ?_⟩
        · unfold World.cell? at this
          simp only [hh] at this
          simpa using this
        · match i, hi with
          | 0, _ => exact .int _ _
          | 1, _ => exact .int _ _
          | 2, _ => exact .int _ _
          | 3, _ => exact .int _ _
    · exact absurd (hG_atS 102 b h0) hne
  · intro b b' p p' hb1 hb2 _ _ _
    have e1 : b = 0 := by
      by_cases h : b = 0
      · exact h
      · exact absurd (hG_atS 102 b h) hb1
    have e2 : b' = 0 := by
      by_cases h : b' = 0
      · exact h
      · exact absurd (hG_atS 102 b' h) hb2
    rw [e1, e2]
  · intro b hb
    have : 4 ≤ b := hb
    rw [if_neg (by omega)]
  · intro g hg
    rw [glob_size] at hg
    exact ⟨_, _, if_pos hg⟩
  · intro b p hp
    rw [glob_size]
    by_cases h : b < 4
    · exact .inl h
    · rw [if_neg h] at hp; cases hp
  · rw [glob_size]; exact Nat.le_refl _
  · intro b h; exact h.elim
theorem gw_of {W : World} (hL : laidMetH Tryz.prog theLaid W) (hsh : W.ShapedOpen Tryz.prog) : GW W := by
  rw [MakeChecks.laidMetH_plain _ _ _ (by kernel_rfl)] at hL
  exact ⟨⟨102, ig_at hsh (bases_at hL)⟩, tabs_at hL, bases_at hL, shaped_big hsh⟩

/-- As the kit's wrap for listed variables, with the world's shape kept for the contract. -/
theorem handed_of_both {H : Type} {enc : TypeId × Value → H} {a : Assume} {C : Checked} {os : Os} {f : FuncId} {fn : Func} {s : ChangeSpec} {conds : List PathCond} {apart fresh handsOn again : Bool} {X : World → Array Value → Prop}
    (hX : ∀ (w w' : World) (args : Array Value), w.heap = w'.heap → X w args → X w' args)
    (own : ownKnob C.prog.godebug = none) (started : os.Started) (noInit : C.prog.inits.idxOf? f = none) (hfn : C.prog.funcs[f]? = some fn)
    (witness : ∃ (w : World) (tape : Tape) (i : Input), w.os = os ∧ (w.forCall tape i).Shaped C.prog ∧ i.vars = [] ∧ Input.okWide C.prog (w.forCall tape i) .any w.heap.size f i ∧
      ((s.pre enc C.prog fn conds apart (w.forCall tape i).memory i.args ∧ X (w.forCall tape i).memory i.args) ∧ sizedMet enc C.prog fn (OpenSpec.ofChange s) apart (w.forCall tape i).memory i.args) ∧ a.holds C.prog (lone (Frame.enter C.prog f i.args .normal) [] (w.forCall tape i)))
    (contract : ∀ (W : World) (base : Nat) (args : Array Value) (ds gs : List (DataW H)) (before : List MemPlace),
      (∀ (j : Nat) t v, fn.params[j]? = some t → args[j]? = some v → Value.okWide C.prog W .any base t v) →
      DataW.Whole enc C.prog fn.params.toList s.vars apart W args.toList ds gs before →
      X W args → W.ShapedOpen C.prog →
      Calls C.prog f args W fun e W' => ∃ v, e = .returned v ∧ s.post enc C.prog fn apart fresh handsOn again W args v W') :
    ReturnsInHanded a C os f .any (fun w args => (s.pre enc C.prog fn conds apart w args ∧ X w args) ∧ sizedMet enc C.prog fn (OpenSpec.ofChange s) apart w args) (s.post enc C.prog fn apart fresh handsOn again) := by
  refine returnsInHanded_of_calls own started noInit witness ?_
  intro w tape i _ hsh _ hok hpre _
  obtain ⟨_, _, _, fn', hfn', _, _, _, _, hval⟩ := hok
  have e : fn' = fn := Option.some.inj (hfn'.symm.trans hfn)
  subst e
  obtain ⟨⟨⟨ds, gs, before, hw, _⟩, hx⟩, _⟩ := hpre
  have hw' := DataW.Whole.of_heap (w' := w.forCall tape i) (by rfl) hw
  refine (contract (w.forCall tape i) w.heap.size i.args ds gs before hval hw' (hX _ _ _ (by rfl) hx) hsh).mono fun e W' ⟨v, he, hp⟩ => ?_
  subst he
  exact ChangeSpec.post_blind hp

theorem law_calls (a : ByteArray) (w : World) (hG : GW w) : Calls Tryz.prog 3 #[.string a] w (TruePost w) := by
  by_cases h : a.size ≤ 4010
  · exact law_short a h (pure_lit a h) w hG
  · exact law_long a (by omega) (pure_lit _ (by simp; omega)) w hG

set_option maxRecDepth 100000 in
theorem lifted (os : Os) (started : os.Started) (H : Type) (enc : TypeId × Value → H) :
    ReturnsInHanded {} Tryz.checked os 3 .any (fun w args => (Rows.litTextsSpec.pre enc Tryz.prog Tryz.f3 [] false w args ∧ laidMetH Tryz.prog theLaid w) ∧ sizedMet enc Tryz.prog Tryz.f3 (OpenSpec.ofChange Rows.litTextsSpec) false w args)
      (Rows.litTextsSpec.post enc Tryz.prog Tryz.f3 false true false false) := by
  refine handed_of_both (C := Tryz.checked) (X := fun w _ => laidMetH Tryz.prog theLaid w) (fun _ _ _ hh h => h.of_heap hh) Tryz.own started (by kernel_rfl) Tryz.func3
    (ChangeSpec.witness_shaped (enc := enc) (C := Tryz.checked) (os := os) (X := fun w _ => laidMetH Tryz.prog theLaid w) false (World.laidAll Tryz.prog os theLaid) #[.string ByteArray.empty] 8 (World.laidAll_os _ _ _)
      (World.shaped_of_ZipB (by kernel_rfl) (by kernel_rfl)) (by kernel_rfl) (by kernel_rfl) (by kernel_rfl)
      (by rw [MakeChecks.laidMetH_plain _ _ _ (by kernel_rfl)]; exact laidMet_laidAll _ (by kernel_rfl) (by kernel_rfl))) ?_
  intro W base args ds gs before hval0 hW hL hsh
  have hval : ∀ (j : Nat) t v, Tryz.f3.params[j]? = some t → args[j]? = some v → Value.okWide Tryz.prog W .any base t v := hval0
  have hW' := hW
  obtain ⟨p, q, hA0, hV, rfl, _, _⟩ := hW
  have hA : DataW.TrodAll enc Tryz.prog W 0 (fun _ => true) true Tryz.f3.params.toList args.toList ds p := hA0
  rw [Tryz.params3] at hA hval
  obtain ⟨v0, d0, rfl, rfl, h0⟩ := trodAll_one hA
  obtain ⟨rfl, rfl⟩ := trodVars_none hV
  obtain ⟨s, rfl, rfl, rfl, ws⟩ := Go.ChangeMaps.open_string Tryz.underlying9 (hval 0 9 v0 rfl rfl) h0
  simp only [List.append_nil] at hW'
  refine (law_calls s W (gw_of hL hsh)).mono fun e W' ⟨he, hb⟩ => ?_
  subst he
  exact ⟨_, rfl, _, _, _, [], [], [], hW', trodAll_mk1 (shut_bool Tryz.underlying4 _), trodAll_mk1 (Go.ChangeMaps.shut_string Tryz.underlying9 ws), rfl, hb.frame _, fun h => by cases h⟩

/-- The row of LitTexts: whatever the input, the call returns true and the input reads as it did. -/
theorem litTexts_holds : Rows.LitTextsSaid :=
  OpenClaim.holds_of_wide 3 Tryz.f3 rfl rfl rfl rfl rfl rfl rfl ⟨rfl, rfl, rfl, rfl, rfl⟩ rfl rfl rfl rfl rfl (by kernel_rfl) Tryz.func3 (by kernel_rfl)
    (of_decide_eq_true (by kernel_rfl)) (by unfold Func.isWrapper; first | (rw [if_pos (by decide +kernel)]; kernel_rfl) | (rw [if_neg (by decide +kernel)]; exact ⟨rfl, rfl⟩))
    (fun os started H enc _ => lifted os started H enc)
#print axioms litTexts_holds
end Go.Proofs.YtgfdfmgocijdgaaGreatDoor
