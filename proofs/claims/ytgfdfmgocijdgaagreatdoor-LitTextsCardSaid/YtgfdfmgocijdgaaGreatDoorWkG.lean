/- lit.Text of the checked program, walked. -/
import Derived.Test.YtgfdfmgocijdgaaGreatDoorWkF
namespace Go.Proofs.YtgfdfmgocijdgaaGreatDoor
open Go.RowKit Go.Lib Go.Shelf Go.Proofs.YtgfdfmgocijdgaaGreatDoorW.PrintWords Go.Proofs.YtgfdfmgocijdgaaGreatDoorW.PrintLast Go.Proofs.YtgfdfmgocijdgaaGreatDoorW.PrintMore PLitTexts
/-- A row of bytes that the call has made. -/
def OutRow (W : World) (base : Nat) (v : Value) (out : List Int) : Prop := Kd.R (Kd.int .u8) 5 W base (fun _ => True) v out
theorem encs_runes (r : Int) : encs (Value.int .u8) (encodeRuneZ r) = runeCells r := rfl
def AppPost (w : World) (base : Nat) (out : List Int) (e : Ending) (w' : World) : Prop := ∃ v', e = .returned v' ∧ OutRow w' base v' out ∧ Below base w w'
theorem enc_len (r : Int) : (encodeRuneZ r).length ≤ 4 := by
  unfold encodeRuneZ
  repeat' split
  all_goals simp
theorem apprune_any (w W : World) (base : Nat) (v : Value) (out : List Int) (r : Int) (h0 : -2147483648 ≤ r) (h1 : r ≤ 2147483647) (hR : OutRow W base v out) (hB : Below base w W) (hbase : base ≤ W.heap.size) (hl : out.length + 4 ≤ 140737488355328) :
    Calls Tryz.prog 15 #[v, .int .i32 r] W (AppPost w base (out ++ encodeRuneZ r)) := by
  have ho := Kd.own_of_R hR
  refine (Tryz.utf8_AppendRune_plain base v out.length _ r h0 h1 W ho hl hbase).mono ?_
  rintro e w' ⟨v', rfl, ho', o, hg⟩
  have e1 : encs (Value.int .u8) out ++ runeCells r = encs (Value.int .u8) (out ++ encodeRuneZ r) := by rw [← encs_runes, ← encs_append]
  have e2 : out.length + (runeCells r).length = (out ++ encodeRuneZ r).length := by simp [runeCells]
  rw [e1, e2] at ho'
  refine ⟨v', rfl, Kd.R_of_own ho' (fun _ _ => trivial), ?_⟩
  exact Below.grown (hB.alloc hbase o) hg (by simp; omega) (fun k hk => by
    rcases ho.2 with ⟨rfl, _⟩ | ⟨g, cap, cur, rfl, hgb, _⟩
    · simp [Value.ownBlock] at hk
    · simp [Value.ownBlock] at hk
      omega)
/-- What a text between quotes stands for; none: it is wrong. -/
def txS : Nat → List UInt8 → List Int → Option (List Int)
  | 0, _, _ => none
  | k + 1, l, out =>
    if l = [34] then some out
    else if (oneS l 34).2.2 = 0 then none
    else if (oneS l 34).2.1 = true then txS k (l.drop (oneS l 34).2.2.toNat) (out ++ [(oneS l 34).1 % 256])
    else txS k (l.drop (oneS l 34).2.2.toNat) (out ++ encodeRuneZ (oneS l 34).1)
def textRes : Option (List Int) → ByteArray × Int
  | some out => (strOfNums out, 0)
  | none => (⟨#[]⟩, 5)
/-- What lit.Text says. -/
def textS (s : ByteArray) : ByteArray × Int :=
  if chkE s ≠ 0 then (⟨#[]⟩, chkE s)
  else if Lib.hasPrefix s.data.toList [96] = true then
    (if (Lib.cut (Lib.trimPrefix s.data.toList [96]) [96]).2.2 = false then (⟨#[]⟩, 5)
     else if (Lib.cut (Lib.trimPrefix s.data.toList [96]) [96]).2.1 ≠ [] then (⟨#[]⟩, 5)
     else (⟨(Lib.replaceAll (Lib.cut (Lib.trimPrefix s.data.toList [96]) [96]).1 [13] []).toArray⟩, 0))
  else if s.size < 2 then (⟨#[]⟩, 5)
  else if bN s.data.toList 0 ≠ 34 then (⟨#[]⟩, 5)
  else textRes (txS s.size (s.data.toList.drop 1) [])
def TextPost (r : ByteArray × Int) (W : World) (e : Ending) (w' : World) : Prop := e = .returned (.tuple #[.string r.1, .int .i64 r.2]) ∧ Below W.heap.size W w'
theorem hp_one (l : List UInt8) (c : UInt8) : Lib.hasPrefix l [c] = true ↔ l.head? = some c := by
  cases l with
  | nil => simp [Lib.hasPrefix]
  | cons x l => simp [Lib.hasPrefix, List.isPrefixOf]; exact ⟨fun h => h.symm, fun h => h.symm⟩
/-- The loop of lit.Text: x is left, out is made. -/
def LoopInv (s : ByteArray) (w : World) (x : ByteArray) (out : List Int) (k : Nat) (o : ByteArray × Int) (v : Value) (w' : World) : Prop :=
  textRes (txS k x.data.toList out) = o ∧ x.size < k ∧ out.length + 4 * x.size ≤ 4 * s.size ∧ OutRow w' w.heap.size v out ∧ Below w.heap.size w w'
theorem text_ret (o : ByteArray × Int) {a : ByteArray × Int} {w w' : World} (h : a = o) (hb : Below w.heap.size w w') : TextPost o w (.returned (.tuple #[.string a.1, .int .i64 a.2])) w' := by
  subst h
  exact ⟨rfl, hb⟩
theorem trim_len (l p : List UInt8) : (Lib.trimPrefix l p).length ≤ l.length := by
  unfold Lib.trimPrefix
  split
  · simp
  · exact Nat.le_refl _
theorem cut_len (l p : List UInt8) : (Lib.cut l p).1.length ≤ l.length := by
  unfold Lib.cut
  split
  · simp; omega
  · exact Nat.le_refl _
theorem GW.drewN {w : World} (h : GW w) (n : Nat) : GW (w.drewN n) := h.below (pw_below_drewN (Below.refl _ _) n)
theorem decodeN_rune (n b0 b1 b2 b3 : Nat) : (decodeN n b0 b1 b2 b3).1 ≤ 1114111 := by
  unfold decodeN
  repeat' split
  all_goals simp only <;> omega
theorem decodeGo_rune (s : ByteArray) : (Lib.decodeGo s).1 ≤ 1114111 := by
  unfold Lib.decodeGo
  split
  · simp
  · rw [decode_at]
    exact decodeN_rune _ _ _ _ _
theorem esc_rune (l : List UInt8) (off many base most : Nat) (h : most ≤ 1114111) : 0 ≤ (escS l off many base most).1 ∧ (escS l off many base most).1 ≤ 1114111 := by
  unfold escS
  repeat' split
  all_goals simp only <;> omega
theorem one_rune0 (l : List UInt8) (q : Nat) (hq : q < 256) : 0 ≤ (oneS l q).1 ∧ (oneS l q).1 ≤ 1114111 := by
  unfold oneS
  have hd := decodeGo_rune ⟨l.toArray⟩
  have hp := plain_lt (bN l 1)
  repeat' split
  all_goals first | exact esc_rune _ _ _ _ _ (by omega) | (simp only; omega)
theorem one_rune (l : List UInt8) : -2147483648 ≤ (oneS l 34).1 ∧ (oneS l 34).1 ≤ 2147483647 := by
  have := one_rune0 l 34 (by omega)
  omega
def strLen : Value → Nat
  | .string x => x.size
  | _ => 0
set_option maxRecDepth 1000000 in
set_option maxHeartbeats 4000000 in
theorem text_any (s : ByteArray) (hs : s.size ≤ 4010) (w : World) (hG : GW w) : Calls Tryz.prog 5 #[.string s] w (TextPost (textS s) w) := by
  obtain ⟨o, ho⟩ : ∃ o, textS s = o := ⟨_, rfl⟩
  rw [ho]
  unfold textS at ho
  have hk := chk_vals s
  have hC := fun W => check_any s W
  unfold ChkPost at hC
  generalize chkE s = ce at *
  by_cases h1 : ce = 0
  · rw [if_neg (fun h => h h1)] at ho
    subst h1
    clear hk
    have hPre : ∀ W, Calls Tryz.prog 12 #[.string s, .string ⟨#[96]⟩] W fun e w' => e = .returned (.tuple #[.string ⟨(Lib.trimPrefix s.data.toList [96]).toArray⟩, .bool (Lib.hasPrefix s.data.toList [96])]) ∧ w' = W := fun W => Tryz.strings_CutPrefix s ⟨#[96]⟩ W
    by_cases h2 : Lib.hasPrefix s.data.toList [96] = true
    · rw [if_pos h2] at ho
      rw [h2] at hPre
      clear h2
      have htl : (Lib.trimPrefix s.data.toList [96]).length ≤ 4010 := Nat.le_trans (trim_len _ _) (by rw [len_list]; exact hs)
      generalize Lib.trimPrefix s.data.toList [96] = rest at *
      have hCut : ∀ W, GW W → Calls Tryz.prog 13 #[.string ⟨rest.toArray⟩, .string ⟨#[96]⟩] W fun e w' => e = .returned (.tuple #[.string ⟨(Lib.cut rest [96]).1.toArray⟩, .string ⟨(Lib.cut rest [96]).2.1.toArray⟩, .bool (Lib.cut rest [96]).2.2]) ∧ ∃ n, w' = W.drewN n := by
        intro W hW
        obtain ⟨m, hm⟩ := hW.maxLen
        have := Tryz.strings_Cut ⟨rest.toArray⟩ ⟨#[96]⟩ m W (by show rest.toArray.size < _; simp; omega) hm
        simpa using this
      have hbl : (Lib.cut rest [96]).1.length ≤ 4010 := Nat.le_trans (cut_len _ _) htl
      generalize Lib.cut rest [96] = c at *
      obtain ⟨body, fin, is⟩ := c
      simp only at ho hCut hbl
      have hRep : ∀ W, GW W → Calls Tryz.prog 14 #[.string ⟨body.toArray⟩, .string ⟨#[13]⟩, .string ⟨#[]⟩] W fun e w' => e = .returned (.string ⟨(Lib.replaceAll body [13] []).toArray⟩) ∧ Below W.heap.size W w' := by
        intro W hW
        obtain ⟨m, hm⟩ := hW.maxLen
        have hsz : (⟨body.toArray⟩ : ByteArray).size = body.length := by show body.toArray.size = _; simp
        have hsz0 : (⟨#[]⟩ : ByteArray).size = 0 := rfl
        have := Tryz.strings_ReplaceAll ⟨body.toArray⟩ ⟨#[13]⟩ ⟨#[]⟩ m W (by omega) hm (by decide) (by rw [hsz0, Nat.mul_zero]; omega)
        simpa using this
      generalize Lib.replaceAll body [13] [] = out at *
      clear htl hbl
      have hfin : (⟨fin.toArray⟩ : ByteArray).toList = fin := by rw [Lib.toList_data]
      cases is with
      | false =>
        rw [if_pos rfl] at ho
        subst ho
        clear hfin hRep
        go_enter Tryz.func5, Tryz.ntmps5
        go_wp2_with (first | (go_at_call 10; (with_reducible refine (hC _).mono ?_); rintro e w1 ⟨p, rfl, hb1⟩) | (go_at_call 12; (with_reducible refine (hPre _).mono ?_); rintro e w2 ⟨rfl, rfl⟩) | (go_at_call 13; (with_reducible refine (hCut _ (hG.below hb1)).mono ?_); rintro e w3 ⟨rfl, nd, rfl⟩))
        go_ret2
        exact ⟨rfl, pw_below_drewN hb1 _⟩
      | true =>
        rw [if_neg (by simp)] at ho
        by_cases h3 : fin = []
        · rw [if_neg (fun h => h h3)] at ho
          subst ho
          have g1 : fin.isEmpty = true := by rw [h3]; rfl
          clear hfin h3
          go_enter Tryz.func5, Tryz.ntmps5
          go_wp2_with (first | (go_at_call 10; (with_reducible refine (hC _).mono ?_); rintro e w1 ⟨p, rfl, hb1⟩) | (go_at_call 12; (with_reducible refine (hPre _).mono ?_); rintro e w2 ⟨rfl, rfl⟩) | (go_at_call 13; (with_reducible refine (hCut _ (hG.below hb1)).mono ?_); rintro e w3 ⟨rfl, nd, rfl⟩) | (go_at_call 14; (with_reducible refine (hRep _ ((hG.below hb1).drewN nd)).mono ?_); rintro e w4 ⟨rfl, hb4⟩))
          go_ret2
          exact ⟨rfl, below_step (pw_below_drewN hb1 _) hb4⟩
        · rw [if_pos h3] at ho
          subst ho
          have g1 : fin.isEmpty = false := by simpa using h3
          clear hfin h3 hRep
          go_enter Tryz.func5, Tryz.ntmps5
          go_wp2_with (first | (go_at_call 10; (with_reducible refine (hC _).mono ?_); rintro e w1 ⟨p, rfl, hb1⟩) | (go_at_call 12; (with_reducible refine (hPre _).mono ?_); rintro e w2 ⟨rfl, rfl⟩) | (go_at_call 13; (with_reducible refine (hCut _ (hG.below hb1)).mono ?_); rintro e w3 ⟨rfl, nd, rfl⟩))
          go_ret2
          exact ⟨rfl, pw_below_drewN hb1 _⟩
    · rw [if_neg h2] at ho
      have h2' : Lib.hasPrefix s.data.toList [96] = false := by simpa using h2
      rw [h2'] at hPre
      clear h2 h2'
      by_cases h3 : s.size < 2
      · rw [if_pos h3] at ho
        subst ho
        have f4 : decide ((s.size : Int) < 2) = true := decide_eq_true (by omega)
        have f5 : decide (s.size < 2) = true := decide_eq_true (by omega)
        go_enter Tryz.func5, Tryz.ntmps5
        go_wp2_with (first | (go_at_call 10; (with_reducible refine (hC _).mono ?_); rintro e w1 ⟨p, rfl, hb1⟩) | (go_at_call 12; (with_reducible refine (hPre _).mono ?_); rintro e w2 ⟨rfl, rfl⟩))
        go_ret2
        exact ⟨rfl, hb1⟩
      · rw [if_neg h3] at ho
        have f4 : decide ((s.size : Int) < 2) = false := decide_eq_false (by omega)
        have f5 : decide (s.size < 2) = false := decide_eq_false (by omega)
        have f6 : 0 < s.size := by omega
        have f7 : 1 ≤ s.size := by omega
        have hx0 := byte_at s 0
        generalize bN s.data.toList 0 = B0 at *
        by_cases h4 : B0 = 34
        · rw [if_neg (fun h => h h4)] at ho
          have f3 : ((B0 : Int) != 34) = false := by rw [bne_eq_false_iff_eq]; omega
          clear h4
          go_enter Tryz.func5, Tryz.ntmps5
          go_wp2_with (first | (go_at_call 10; (with_reducible refine (hC _).mono ?_); rintro e w1 ⟨p, rfl, hb1⟩) | (go_at_call 12; (with_reducible refine (hPre _).mono ?_); rintro e w2 ⟨rfl, rfl⟩))
          have hB1 := Lib.hid hb1
          clear hb1
          have hX := Lib.hid ho
          clear ho
          have hinit : Hid (OutRow w2 w.heap.size (.slice none 0 0) []) := Lib.hid (Kd.R_nil _ _ _ _ _)
          have hlen := len_list s
          have hdl := drop_list s 1
          have hds : (s.extract 1 s.size).size = s.size - 1 := by simp
          go_loopw [0, 11] (fun v0 v11 w' => ∃ (x : ByteArray) (out : List Int) (k : Nat), v0 = .string x ∧ Hid (LoopInv s w x out k o v11 w')) (fun v0 _ _ => strLen v0)
          case atStart => exact ⟨s.extract 1 s.size, [], s.size, rfl, Lib.hid ⟨by rw [hdl]; exact hX.out, by omega, by simp; omega, hinit.out, hB1.out⟩⟩
          case round =>
            clear hinit hX hdl hds hlen
            obtain ⟨x, out, k, rfl, hinv⟩ := hrel
            have hI := hinv.out
            clear hinv
            obtain ⟨i1, i2, i3, i4, i5⟩ := hI
            cases k with
            | zero => omega
            | succ k =>
            have i1' := i1
            unfold txS at i1'
            have hxs : x.size ≤ 4010 := by omega
            have hO : ∀ W, GW W → Calls Tryz.prog 11 #[.string x, .int .u8 34] W (OnePost (oneS x.data.toList 34) W) := fun W hW => one_any x 34 hxs (.inr rfl) W hW
            have hdx := drop_list x
            have htl : x.toList = x.data.toList := Lib.toList_data x
            by_cases h5 : x.data.toList = [34]
            · rw [if_pos h5] at i1'
              have g1 : (x.toList == ([34] : List UInt8)) = true := by rw [htl, h5]; rfl
              have hcv := own_string (P := Tryz.prog) Tryz.underlying42 Tryz.underlying5 Tryz.underlying9 (Kd.own_of_R i4)
              have hres := Lib.hid i1'
              clear i1 i1' h5 htl hdx hO
              go_wp2
              go_ret2
              exact text_ret _ hres.out i5
            · rw [if_neg h5] at i1'
              have g1 : (x.toList == ([34] : List UInt8)) = false := by rw [htl]; simpa using h5
              clear i1 h5 htl
              obtain ⟨m, hm, hml⟩ := one_le x.data.toList 34
              rw [len_list] at hml
              have hrn := one_rune x.data.toList
              generalize oneS x.data.toList 34 = one at *
              obtain ⟨r, b, n⟩ := one
              simp only at hm i1' hrn
              subst hm
              unfold OnePost at hO
              simp only at hO
              by_cases h6 : m = 0
              · rw [if_pos (by omega)] at i1'
                subst h6
                have hres := Lib.hid i1'
                clear i1' hrn hdx
                go_wp2_with (first | (go_at_call 11; (with_reducible refine (hO _ (hG.below i5)).mono ?_); rintro e w4 ⟨rfl, hb4⟩))
                go_ret2
                exact text_ret _ hres.out (below_step i5 hb4)
              · rw [if_neg (by omega)] at i1'
                have g2 : ((m : Int) == 0) = false := by rw [beq_eq_false_iff_ne]; omega
                have g3 : (m : Int) ≤ x.size := by omega
                have e1 : ((m : Int)).toNat = m := by omega
                rw [e1] at i1'
                clear e1
                cases b with
                | true =>
                  simp only [if_true] at i1'
                  have hnx := Lib.hid i1'
                  clear i1' hdx hrn
                  have hol : Hid (out.length + 1 ≤ 140737488355328) := Lib.hid (by omega)
                  go_wp2_with (first | (go_at_call 11; (with_reducible refine (hO _ (hG.below i5)).mono ?_); rintro e w4 ⟨rfl, hb4⟩; have j4 : Hid (OutRow _ w.heap.size u11 out) := Lib.hid (Kd.R_below i4 hb4); have j5 := Lib.hid (below_step i5 hb4); clear hb4) | ((with_reducible refine gate_builtin (b := .append) (xs := #[.tmp 69, .tmp 72]) rfl ?_); at_builtin; refine Kd.R_append (Kd.int .u8) (w0 := w) w.heap.size rfl (.tmp 69) (.tmp 72) 42 5 (.int .u8 0) 1 rfl Tryz.underlying42 info5 rfl (by decide) (by omega) u11 out (r % 256) [.int .u8 (r % 256)] (fun _ => True) (fun _ => False) rfl (by first | (go_simp; done) | (go_simp; rfl)) ?aP (fun _ hk => hk.elim) ?aF ?aO ?aB ?aS ?aL ?_; (case aP => exact rfl); (case aB => exact j5.out); (case aF => exact (fun _ _ => trivial)); (case aO => exact j4.out); (case aS => exact below_size j5.out); (case aL => have := hol.out; omega); intro v1 w5 ho5 hb5 hg5 hat5; have k4 := Lib.hid ho5; have k5 := Lib.hid hb5; clear ho5 hb5 hg5 hat5 j4 j5))
                  go_roundw
                  case rel => exact ⟨x.extract m x.size, out ++ [r % 256], k, rfl, Lib.hid ⟨by rw [drop_list]; exact hnx.out, by simp; omega, by simp; omega, k4.out, k5.out⟩⟩
                  case measure => simp [strLen]; omega
                | false =>
                  rw [if_neg (by simp)] at i1'
                  have hnx := Lib.hid i1'
                  clear i1' hdx
                  have hel := enc_len r
                  have hR : ∀ W, Hid (OutRow W w.heap.size u11 out) → Hid (Below w.heap.size w W) → Calls Tryz.prog 15 #[u11, .int .i32 r] W (AppPost w w.heap.size (out ++ encodeRuneZ r)) := fun W a b => apprune_any w W w.heap.size u11 out r hrn.1 hrn.2 a.out b.out b.out.size (by omega)
                  unfold AppPost at hR
                  generalize encodeRuneZ r = er at *
                  clear hrn
                  go_wp2_with (first | (go_at_call 11; (with_reducible refine (hO _ (hG.below i5)).mono ?_); rintro e w4 ⟨rfl, hb4⟩; have j4 : Hid (OutRow _ w.heap.size u11 out) := Lib.hid (Kd.R_below i4 hb4); have j5 := Lib.hid (below_step i5 hb4); clear hb4) | (go_at_call 15; (with_reducible refine (hR _ j4 j5).mono ?_); rintro e w5 ⟨v', rfl, k4, k5⟩; have k4' := Lib.hid k4; have k5' := Lib.hid k5; clear k4 k5 j4 j5))
                  go_roundw
                  case rel => exact ⟨x.extract m x.size, out ++ er, k, rfl, Lib.hid ⟨by rw [drop_list]; exact hnx.out, by simp; omega, by simp; omega, k4'.out, k5'.out⟩⟩
                  case measure => simp [strLen]; omega
        · rw [if_pos h4] at ho
          subst ho
          have f3 : ((B0 : Int) != 34) = true := by rw [bne_iff_ne]; omega
          clear h4
          go_enter Tryz.func5, Tryz.ntmps5
          go_wp2_with (first | (go_at_call 10; (with_reducible refine (hC _).mono ?_); rintro e w1 ⟨p, rfl, hb1⟩) | (go_at_call 12; (with_reducible refine (hPre _).mono ?_); rintro e w2 ⟨rfl, rfl⟩))
          go_ret2
          exact ⟨rfl, hb1⟩
  · rw [if_pos h1] at ho
    subst ho
    have f1 : (ce != 0) = true := by rw [bne_iff_ne]; exact h1
    clear h1 hk
    go_enter Tryz.func5, Tryz.ntmps5
    go_wp2_with (first | (go_at_call 10; (with_reducible refine (hC _).mono ?_); rintro e w1 ⟨p, rfl, hb1⟩))
    go_ret2
    exact ⟨rfl, hb1⟩
end Go.Proofs.YtgfdfmgocijdgaaGreatDoor
