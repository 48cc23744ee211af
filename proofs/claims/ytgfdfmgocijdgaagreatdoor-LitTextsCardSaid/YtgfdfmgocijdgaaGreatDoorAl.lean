/- The law's own alive() returns true, by the evaluator; and what else is evaluated of the checked program. -/
import Derived.Test.YtgfdfmgocijdgaaGreatDoorEv8
import Derived.Test.YtgfdfmgocijdgaaGreatDoorSh
import Derived.KernelRfl
namespace Go.Proofs.YtgfdfmgocijdgaaGreatDoor
open Go Go.Ev Go.Shelf Go.RowKit
noncomputable def pl (f id : Nat) : List PSt :=
  cond (Nat.beq f 28) (cond (Nat.beq id 3) [.rd 0, .rd 1, .rd 2, .rd 3, .rd 4, .rd 5, .rd 6, .rd 7, .rd 8, .rd 9, .rd 10, .rd 11] ([])) (
  cond (Nat.beq f 36) (cond (Nat.beq id 2) [.rd 0, .rd 1, .eff 2 [], .rd 3, .rd 4] (cond (Nat.beq id 10) [.rd 0, .rd 1, .rd 2, .rd 3, .rd 4, .rd 5, .eff 6 [4, 3, 2, 1, 0], .rd 7, .eff 8 [4, 3, 1], .rd 9] ([]))) (
  cond (Nat.beq f 42) (cond (Nat.beq id 4) [.rd 0, .rd 1, .rd 2, .rd 4, .eff 3 [4, 2, 1, 0], .rd 5, .rd 6, .rd 7, .rd 8] ([])) (
  cond (Nat.beq f 46) (cond (Nat.beq id 4) [.rd 0, .rd 1, .rd 2, .rd 4, .rd 5, .eff 3 [5, 4, 1], .eff 6 [4, 1], .rd 7] ([])) (
  cond (Nat.beq f 49) (cond (Nat.beq id 3) [.rd 0, .rd 1, .rd 2, .rd 3, .rd 4, .rd 5, .rd 6, .rd 7, .rd 8, .rd 9, .rd 10, .rd 11, .rd 12] ([])) (
  cond (Nat.beq f 52) (cond (Nat.beq id 1) [.rd 0, .rd 1, .rd 2, .rd 3, .rd 5, .rd 6, .rd 7, .rd 8, .rd 9, .eff 4 [9, 8, 7, 6, 5, 2, 1, 0], .eff 10 [8, 7, 6, 5, 2, 1, 0], .rd 11] ([])) (
  cond (Nat.beq f 54) (cond (Nat.beq id 6) [.rd 0, .rd 1, .rd 2, .rd 3, .rd 4, .rd 5, .rd 6] (cond (Nat.beq id 7) [.rd 0, .rd 1, .rd 2, .rd 3, .rd 4, .rd 5, .rd 6, .eff 7 [5, 4, 2, 1, 0], .rd 8] (cond (Nat.beq id 14) [.rd 0, .rd 1, .rd 2, .rd 3, .rd 4, .rd 5, .rd 6, .rd 7, .rd 8, .rd 9, .rd 10] (cond (Nat.beq id 31) [.rd 0, .rd 1, .rd 2, .rd 3, .rd 4, .rd 5, .rd 6, .rd 7, .rd 8, .rd 9, .rd 10] ([]))))) (
  cond (Nat.beq f 59) (cond (Nat.beq id 1) [.rd 0, .rd 2, .eff 1 [2], .rd 3, .rd 4] ([])) (
  cond (Nat.beq f 87) (cond (Nat.beq id 0) [.rd 0, .rd 1, .rd 2, .rd 3, .rd 4, .rd 5, .rd 6, .rd 7, .rd 9, .rd 10, .rd 11, .rd 12, .rd 13, .eff 8 [13, 12, 11, 10, 9, 6, 5, 4, 3, 2, 1, 0], .rd 14, .rd 15] ([])) (
  cond (Nat.beq f 96) (cond (Nat.beq id 13) [.rd 0, .rd 1, .rd 2, .rd 3, .rd 4, .rd 5, .rd 6, .rd 7, .rd 8, .rd 9, .eff 10 []] ([])) (
  cond (Nat.beq f 104) (cond (Nat.beq id 7) [.rd 0, .rd 1, .rd 2, .rd 3, .rd 4, .rd 5, .rd 6, .rd 7, .eff 8 [6, 5, 4, 2, 1, 0], .rd 9] ([])) (
  cond (Nat.beq f 105) (cond (Nat.beq id 6) [.rd 0, .rd 1, .rd 2, .rd 3, .rd 4, .rd 5, .rd 6, .rd 9, .eff 7 [9, 4, 3, 2, 1, 0], .rd 8, .rd 10, .rd 11] ([])) (
  []))))))))))))
theorem lit_mixed : Tryz.prog.follows .mixedOrders = true := by kernel_rfl
theorem lit_ok_all : (List.range Tryz.prog.funcs.size).all (fnOkB Tryz.prog pl) = true := by kernel_rfl
theorem lit_ok (f : Nat) : fnOkB Tryz.prog pl f = true := by
  by_cases h : f < Tryz.prog.funcs.size
  · exact List.all_eq_true.1 lit_ok_all f (List.mem_range.2 h)
  · unfold fnOkB; rw [Array.getElem?_eq_none (by omega)]
theorem call99 (args : Array Value) (w : World) : (callFunc 99 args).run Tryz.prog w = ((do pure (.value (← Extern.BytealgIndexByte.indexByte args))) : Sem Next).run Tryz.prog w := by kernel_rfl
theorem call85 (args : Array Value) (w : World) : (callFunc 85 args).run Tryz.prog w = ((do pure (.value (← Extern.BytealgCount.count args))) : Sem Next).run Tryz.prog w := by kernel_rfl
set_option maxRecDepth 20000
/-- What is asked of the world: nat.bases lies as its text lays it, and the library's own number is a number. -/
noncomputable def hG (e : Nat) : AH := ⟨Tr.set .none (.cells (putL [.int .i64 (Int.ofNat 2), .int .i64 (Int.ofNat 8), .int .i64 (Int.ofNat 10), .int .i64 (Int.ofNat 16)] 0 .nil) 4 e true) (toP 0) .nil, 4⟩
def EW (w : World) : Prop := ∃ m, w.cell? ⟨3, 0, none⟩ = some (.int .i64 m)
theorem glob_size : Tryz.prog.globals.size = 4 := by kernel_rfl
theorem EW_closed : ∀ n w w', Tryz.prog.globals.size ≤ n → EW w → Below n w w' → EW w' := by
  rintro n w w' hn ⟨m, hm⟩ b
  rw [glob_size] at hn
  refine ⟨m, ?_⟩
  unfold World.cell? at hm ⊢
  rw [b.block 3 (by omega)]; exact hm
def K (e : Nat) (f : Nat) (args : List AV) (v : AV) : Prop := Ctr Tryz.prog (hG e) EW f args v

noncomputable def o99 (a : List AV) (h : AH) : CR := match a with | [.str l, .int .u8 (.ofNat c)] => cond (Nat.blt c 256) (.ret (.int .i64 (idxA c l)) h) .fail | _ => .fail
noncomputable def o85 (a : List AV) (h : AH) : CR := match a with | [.str l, .int .u8 (.ofNat c)] => cond (Nat.blt c 256) (.ret (.int .i64 (Int.ofNat (cntA c l))) h) .fail | _ => .fail
noncomputable def o34 (a : List AV) (h : AH) : CR := match a with | [.str l, .str m] => cond (Nat.blt (lenL l) 4294967281) (.ret (.bool (contA m l)) h) .fail | _ => .fail
noncomputable def o37 (a : List AV) (h : AH) : CR := match a with | [.str l, .int .i64 (.ofNat c)] => cond (Nat.ble (Nat.mul (lenL l) c) 1000000) (cond (Nat.ble c 1000000) (.ret (.str (repA l c)) h) .fail) .fail | _ => .fail

theorem u8_of (c : Nat) (_hc : c < 256) : (Int.ofNat c).toNat.toUInt8 = c.toUInt8 := rfl
theorem o99_ok (e : Nat) (a : List AV) (h : AH) : o99 a h = .fail ∨ ∃ v, o99 a h = .ret v h ∧ K e 99 a v := by
  unfold o99
  split
  · rename_i l c
    rw [bltN]
    by_cases hc : c < 256
    · rw [decide_eq_true hc]
      refine .inr ⟨_, rfl, Ctr.of_value fun w args' M _ hl => ?_⟩
      obtain ⟨s, rfl, rfl⟩ := args_si hl
      refine ⟨.int .i64 (idxA c (natsOf s)), ?_, fun M' => .int _ _⟩
      rw [call99, Sem.run_bind, Lib.run_indexByteString, Result.andThen_ok]
      rw [nats_eq, idxA_eq c hc]
      rfl
    · rw [decide_eq_false hc]; exact .inl rfl
  · exact .inl rfl
theorem o85_ok (e : Nat) (a : List AV) (h : AH) : o85 a h = .fail ∨ ∃ v, o85 a h = .ret v h ∧ K e 85 a v := by
  unfold o85
  split
  · rename_i l c
    rw [bltN]
    by_cases hc : c < 256
    · rw [decide_eq_true hc]
      refine .inr ⟨_, rfl, Ctr.of_value fun w args' M _ hl => ?_⟩
      obtain ⟨s, rfl, rfl⟩ := args_si hl
      refine ⟨.int .i64 (Int.ofNat (cntA c (natsOf s))), ?_, fun M' => .int _ _⟩
      rw [call85, Sem.run_bind, Lib.run_countString, Result.andThen_ok]
      rw [nats_eq, cntA_eq c hc]
      rfl
    · rw [decide_eq_false hc]; exact .inl rfl
  · exact .inl rfl
theorem lenL_nats (s : ByteArray) : lenL (natsOf s) = s.size := by rw [lenL_eq, natsOf_size]
theorem o34_ok (e : Nat) (a : List AV) (h : AH) : o34 a h = .fail ∨ ∃ v, o34 a h = .ret v h ∧ K e 34 a v := by
  unfold o34
  split
  · rename_i l m
    rw [bltN]
    by_cases hc : lenL l < 4294967281
    · rw [decide_eq_true hc]
      refine .inr ⟨_, rfl, Ctr.of_calls fun w args' M hI _ hl => ?_⟩
      obtain ⟨s, u, rfl, rfl, rfl⟩ := args_ss hl
      rw [lenL_nats] at hc
      obtain ⟨⟨k, hk⟩, _⟩ := hI
      refine ⟨Tryz.call34 _ _, (Any.strings_Contains Tryz.lays144 s u k w hc hk).mono ?_⟩
      rintro e' w' ⟨rfl, rfl⟩
      refine ⟨_, rfl, fun M' => ?_, Below.refl _ _⟩
      rw [nats_eq, nats_eq, contA_eq]
      exact .bool _
    · rw [decide_eq_false hc]; exact .inl rfl
  · exact .inl rfl
theorem o37_ok (e : Nat) (a : List AV) (h : AH) : o37 a h = .fail ∨ ∃ v, o37 a h = .ret v h ∧ K e 37 a v := by
  unfold o37
  split
  · rename_i l c
    rw [bleN, bleN]
    by_cases h1 : Nat.mul (lenL l) c ≤ 1000000
    · by_cases h2 : c ≤ 1000000
      · rw [decide_eq_true h1, decide_eq_true h2]
        refine .inr ⟨_, rfl, Ctr.of_calls fun w args' M hI _ hl => ?_⟩
        obtain ⟨s, rfl, rfl⟩ := args_si hl
        have h1' : s.size * c ≤ 1000000 := by rw [lenL_nats] at h1; exact h1
        refine ⟨Tryz.call37 _ _, (Any.strings_Repeat Tryz.lays105 Tryz.Builder_Extra_105 s c w (by omega) (by omega)).mono ?_⟩
        rintro e' w' ⟨rfl, hb⟩
        refine ⟨_, rfl, fun M' => ?_, hb⟩
        rw [nats_eq, repA_eq, ← natsOf_mk]
        exact .str _
      · rw [decide_eq_true h1, decide_eq_false h2]; exact .inl rfl
    · rw [decide_eq_false h1]; exact .inl rfl
  · exact .inl rfl
noncomputable def orcA (f : Nat) : Option (List AV → AH → CR) := cond (Nat.beq f 99) (some o99) (cond (Nat.beq f 85) (some o85) (cond (Nat.beq f 34) (some o34) (cond (Nat.beq f 37) (some o37) none)))
theorem orcA_ok (e : Nat) : OrcOk Tryz.prog (IG Tryz.prog (hG e) EW) orcA := by
  refine orcOk fun f g hg a h => ?_
  unfold orcA at hg
  simp only [beqN] at hg
  by_cases h1 : f = 99
  · subst h1; simp at hg; subst hg; exact o99_ok e a h
  by_cases h2 : f = 85
  · subst h2; simp at hg; subst hg; exact o85_ok e a h
  by_cases h3 : f = 34
  · subst h3; simp at hg; subst hg; exact o34_ok e a h
  by_cases h4 : f = 37
  · subst h4; simp at hg; subst hg; exact o37_ok e a h
  simp [h1, h2, h3, h4] at hg
noncomputable def evA : CallF := evalF Tryz.prog pl orcA 100000 100
theorem evA_ok (e : Nat) : CallOk Tryz.prog (IG Tryz.prog (hG e) EW) evA := evalF_sound lit_mixed (IG_closed (by rw [glob_size]; rfl) EW_closed) lit_ok (orcA_ok e) 100000 100
noncomputable def valOf (r : CR) : AV := CR.rec (fun v _ => v) (fun _ _ => .junk) .junk r
theorem alive_val (e : Nat) : valOf (evA 7 [] (hG e)) = .bool true := by kernel_rfl
theorem alive_ctr (e : Nat) : K e 7 [] (.bool true) := by
  have h := alive_val e
  cases hc : evA 7 [] (hG e) with
  | ret v h' =>
    rw [hc] at h
    have hv : v = .bool true := h
    subst hv
    exact Ctr.eval (evA_ok e) hc rfl rfl
  | pan v h' => rw [hc] at h; cases h
  | fail => rw [hc] at h; cases h
end Go.Proofs.YtgfdfmgocijdgaaGreatDoor
