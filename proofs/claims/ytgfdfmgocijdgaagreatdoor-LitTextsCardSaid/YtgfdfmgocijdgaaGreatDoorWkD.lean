/- What is asked of the world, and stays; the map of lit.plain, by the evaluator; lit.one walked. -/
import Derived.Test.YtgfdfmgocijdgaaGreatDoorAl
import Derived.Test.YtgfdfmgocijdgaaGreatDoorWkC
namespace Go.Proofs.YtgfdfmgocijdgaaGreatDoor
open Go.RowKit Go.Lib Go.Shelf Go.Ev
structure GW (w : World) : Prop where
  ig : ∃ e, IGw Tryz.prog (hG e) EW w
  tabs : Lib.Utf8Tabs 1 2 w
  bases : BasesAt w
  big : 4 ≤ w.heap.size
theorem GW.below {w w' : World} (h : GW w) (b : Below w.heap.size w w') : GW w' := by
  obtain ⟨e, he⟩ := h.ig
  refine ⟨⟨e, ?_⟩, Utf8Tabs_below h.tabs b, h.bases.below h.bases.size b, Nat.le_trans h.big b.size⟩
  have hc := IG_closed (P := Tryz.prog) (hG := hG e) (E := EW) (by rw [glob_size]; rfl) EW_closed
  have := hc ⟨w.heap.size, fun _ => False⟩ w w' ⟨by rw [glob_size]; exact h.big, he⟩ b
  exact this.2
theorem GW.maxLen {w : World} (h : GW w) : ∃ m, w.cell? ⟨3, 0, none⟩ = some (.int .i64 m) := by
  obtain ⟨e, he⟩ := h.ig
  exact he.1
theorem CallT.calls {P : Program} {f : Nat} {args : Array Value} {w : World} {R : Ending → World → Prop} (he : (callFunc f args).run P w = .ok (.enter f args) w) (c : CallT P f args w R) : Calls P f args w R := by
  unfold CallT at c
  rw [he] at c
  exact c
theorem enters7 (w : World) : (callFunc 7 #[]).run Tryz.prog w = .ok (.enter 7 #[]) w := enters_of Tryz.func7 (by kernel_rfl) rfl _ _
theorem enters24 (w : World) : (callFunc 24 #[]).run Tryz.prog w = .ok (.enter 24 #[]) w := enters_of Tryz.func24 (by kernel_rfl) rfl _ _
set_option maxRecDepth 1000000 in
theorem alive_any {w : World} (h : GW w) : Calls Tryz.prog 7 #[] w fun e w' => e = .returned (.bool true) ∧ Below w.heap.size w w' := by
  obtain ⟨e, he⟩ := h.ig
  have c0 : Ctr Tryz.prog (hG e) EW 7 [] (.bool true) := alive_ctr e
  unfold Ctr at c0
  have hbig : Tryz.prog.globals.size ≤ w.heap.size := by rw [glob_size]; exact h.big
  have c := c0 w #[] (fun _ => none) he hbig LRel.nil
  refine (CallT.calls (enters7 w) c).mono ?_
  rintro e w' ⟨v', rfl, hv, hb⟩
  have := hv (fun _ => none)
  cases this
  exact ⟨rfl, hb⟩
/-- What the map of lit.plain holds. -/
def plainT (c : Nat) : Nat × Bool :=
  if c = 97 then (7, true) else if c = 98 then (8, true) else if c = 102 then (12, true) else if c = 110 then (10, true) else if c = 114 then (13, true) else if c = 116 then (9, true) else if c = 118 then (11, true) else if c = 92 then (92, true) else (0, false)
noncomputable def chkL (c : Nat) (r : OR) : Bool :=
  match r with
  | .val (.tup [.int .u8 (.ofNat n), .bool b]) _ => Nat.beq n (plainT c).1 && (b == (plainT c).2)
  | _ => false
noncomputable def heapOf (r : CR) : AH := CR.rec (fun _ h => h) (fun _ h => h) ⟨.nil, 0⟩ r
theorem plain_val (e : Nat) : evA 24 [] (hG e) = .ret (.mp 4) (heapOf (evA 24 [] (hG e))) := by kernel_rfl
theorem plain_all (e : Nat) : (List.range 256).all (fun c => chkL c (lookupOp Tryz.prog 62 (.mp 4) (.int .u8 (.ofNat c)) true (heapOf (evA 24 [] (hG e))))) = true := by kernel_rfl
def PlainPost (c : Nat) (W : World) (e : Ending) (w' : World) : Prop :=
  ∃ b w2, e = .returned (.map (some b)) ∧ (Instr.lookup 62 (.map (some b)) (.int .u8 (c : Int)) true).run Tryz.prog w' = .ok (.tuple #[.int .u8 ((plainT c).1 : Int), .bool (plainT c).2]) w2 ∧ Below W.heap.size W w2
set_option maxRecDepth 1000000 in
theorem plain_any {w : World} (h : GW w) (c : Nat) (hc : c < 256) : Calls Tryz.prog 24 #[] w (PlainPost c w) := by
  obtain ⟨e, hE, M₀, H⟩ := h.ig
  have hbig : Tryz.prog.globals.size ≤ w.heap.size := by rw [glob_size]; exact h.big
  have hok := evA_ok e
  unfold CallOk at hok
  have cc := hok 24 [] #[] ⟨w.heap.size, fun _ => False⟩ M₀ (hG e) w LRel.nil H ⟨hbig, hE, M₀, H⟩ (by rw [plain_val]; simp)
  rw [plain_val] at cc
  refine (CallT.calls (enters24 w) cc).mono ?_
  rintro en w' ⟨v', M', rfl, hM, hv, H', hb⟩
  cases hv with
  | mp hp =>
    rename_i p
    have hs := lookup_sound (P := Tryz.prog) 62 (x := .mp 4) (i := .int .u8 (.ofNat c)) true (VRel.mp hp) (VRel.int _ _) H'
    have hk := List.all_eq_true.1 (plain_all e) c (List.mem_range.2 hc)
    generalize lookupOp Tryz.prog 62 (.mp 4) (.int .u8 (.ofNat c)) true (heapOf (evA 24 [] (hG e))) = r at hs hk
    unfold chkL at hk
    split at hk
    · rename_i n b hh
      simp only [Bool.and_eq_true] at hk
      obtain ⟨k1, k2⟩ := hk
      have k1' := Nat.eq_of_beq_eq_true k1
      have k2' : b = (plainT c).2 := by simpa using k2
      obtain ⟨M2, v2, w2, e1, _, e3, _, e5⟩ := hs
      refine ⟨_, w2, rfl, ?_, hb.trans e5⟩
      rw [show ((c : Nat) : Int) = Int.ofNat c from rfl, e1]
      congr 1
      cases e3 with
      | tup hl =>
        rename_i l'
        have hl' := hl
        generalize hq : l'.toList = q at hl'
        cases hl' with
        | cons a t =>
          cases t with
          | cons a2 t2 =>
            cases t2
            cases a; cases a2
            have : l' = #[.int .u8 (Int.ofNat n), .bool b] := by cases l'; simpa using hq
            rw [this, k1', k2']; rfl
    · cases hk
end Go.Proofs.YtgfdfmgocijdgaaGreatDoor
