/-
  DERIVED: THE SHELF's CONTRACTS AT THIS DUMP, IN PLAIN WORDS (tools/lay-plain.mjs out of 'TrySh.lean', which tools/lay-shelf.mjs wrote): THE SAME DECLARATIONS UNDER THE SAME NAMES: 'import', 'namespace', 'open', 'def', 'theorem' AND NOTHING ELSE: no command of the shelf's: FOR A HAND-IN. Each laying: the table of numbers ('.._ren') and one theorem, a field a fact of the dump's own or the kernel's comparison; each contract: ONE APPLICATION.
-/
import Derived.Shelf.SlGeneric
import Derived.Shelf.SlicesE.IndexFunc
import Derived.Shelf.Strings.Trim
import Derived.Shelf.Strings.SlTrimAscii
import Derived.Shelf.Small.Utf8
import Derived.Shelf.Small.Wraps
import Derived.Shelf.Utf8.AppendRune
import Derived.Shelf.Utf8.AppendRunePlain
import Derived.Shelf.Strings.Cut
import Derived.Shelf.Strings.Shaped
import Derived.Shelf.Strings.Prefix
import Derived.Shelf.Strings.Replace
import Derived.Shelf.Strings.Repeat
import Derived.Shelf.Unicode.DecodeAny
import Derived.Test.YtgfdfmgocijdgaaGreatDoorProg
namespace Go.Proofs
open Go.Shelf
def Tryz.lays160_ren : Go.Shelf.Ren := ⟨fun | 160 => 46 | 232 => 75 | 231 => 74 | 227 => 56 | 234 => 77 | 233 => 76 | 236 => 79 | 235 => 78 | 228 => 57 | 271 => 98 | 151 => 97 | 197 => 23 | 120 => 106 | 152 => 54 | 260 => 45 | 137 => 88 | 119 => 26 | 224 => 82 | 225 => 81 | 217 => 80 | 266 => 99 | n => n, fun | 9 => 9 | 4 => 4 | 3 => 3 | 5 => 5 | 117 => 96 | 116 => 95 | 0 => 0 | 124 => 120 | 21 => 21 | 105 => 59 | 46 => 90 | 119 => 114 | 139 => 117 | 138 => 116 | n => n, fun | 3 => 1 | 4 => 2 | n => n⟩
theorem Tryz.lays160 : Go.Proofs.Lays.n160 Tryz.prog Tryz.lays160_ren := {
  mixed := by kernel_rfl
  f119 := Tryz.func26.trans (congrArg some (by kernel_rfl))
  f120 := Tryz.func106.trans (congrArg some (by kernel_rfl))
  f137 := Tryz.func88.trans (congrArg some (by kernel_rfl))
  f151 := Tryz.func97.trans (congrArg some (by kernel_rfl))
  f152 := Tryz.func54.trans (congrArg some (by kernel_rfl))
  f160 := Tryz.func46.trans (congrArg some (by kernel_rfl))
  f197 := Tryz.func23.trans (congrArg some (by kernel_rfl))
  f217 := Tryz.func80.trans (congrArg some (by kernel_rfl))
  f224 := Tryz.func82.trans (congrArg some (by kernel_rfl))
  f225 := Tryz.func81.trans (congrArg some (by kernel_rfl))
  f227 := Tryz.func56.trans (congrArg some (by kernel_rfl))
  f228 := Tryz.func57.trans (congrArg some (by kernel_rfl))
  f231 := Tryz.func74.trans (congrArg some (by kernel_rfl))
  f232 := Tryz.func75.trans (congrArg some (by kernel_rfl))
  f233 := Tryz.func76.trans (congrArg some (by kernel_rfl))
  f234 := Tryz.func77.trans (congrArg some (by kernel_rfl))
  f235 := Tryz.func78.trans (congrArg some (by kernel_rfl))
  f236 := Tryz.func79.trans (congrArg some (by kernel_rfl))
  f260 := Tryz.func45.trans (congrArg some (by kernel_rfl))
  f266 := Tryz.func99.trans (congrArg some (by kernel_rfl))
  f271 := Tryz.func98.trans (congrArg some (by kernel_rfl))
  t0 := Tryz.underlying0
  a0 := Tryz.isAgg0
  z0 := Tryz.sizeOf0
  v0 := Tryz.zeroValue0
  t3 := Tryz.underlying3
  a3 := Tryz.isAgg3
  z3 := Tryz.sizeOf3
  v3 := Tryz.zeroValue3
  t4 := Tryz.underlying4
  a4 := Tryz.isAgg4
  z4 := Tryz.sizeOf4
  v4 := Tryz.zeroValue4
  t5 := Tryz.underlying5
  a5 := Tryz.isAgg5
  z5 := Tryz.sizeOf5
  v5 := Tryz.zeroValue5
  t9 := Tryz.underlying9
  a9 := Tryz.isAgg9
  z9 := Tryz.sizeOf9
  v9 := Tryz.zeroValue9
  t21 := Tryz.underlying21
  a21 := Tryz.isAgg21
  z21 := Tryz.sizeOf21
  v21 := Tryz.zeroValue21
  t46 := Tryz.underlying90
  a46 := Tryz.isAgg90
  z46 := Tryz.sizeOf90
  v46 := Tryz.zeroValue90
  t105 := Tryz.underlying59
  a105 := Tryz.isAgg59
  z105 := Tryz.sizeOf59
  v105 := Tryz.zeroValue59
  t116 := Tryz.underlying95
  a116 := Tryz.isAgg95
  z116 := Tryz.sizeOf95
  t117 := Tryz.underlying96
  a117 := Tryz.isAgg96
  z117 := Tryz.sizeOf96
  v117 := Tryz.zeroValue96
  t119 := Tryz.underlying114
  a119 := Tryz.isAgg114
  z119 := Tryz.sizeOf114
  t124 := Tryz.underlying120
  a124 := Tryz.isAgg120
  z124 := Tryz.sizeOf120
  v124 := Tryz.zeroValue120
  t138 := Tryz.underlying116
  a138 := Tryz.isAgg116
  z138 := Tryz.sizeOf116
  v138 := Tryz.zeroValue116
  t139 := Tryz.underlying117
  a139 := Tryz.isAgg117
  z139 := Tryz.sizeOf117
  v139 := Tryz.zeroValue117
  g3 := by kernel_rfl
  g4 := by kernel_rfl }
def Tryz.lays119_ren : Go.Shelf.Ren := ⟨fun | 119 => 26 | n => n, fun | 21 => 21 | 4 => 4 | n => n, fun | n => n⟩
theorem Tryz.lays119 : Go.Proofs.Lays.n119 Tryz.prog Tryz.lays119_ren := {
  mixed := by kernel_rfl
  f119 := Tryz.func26.trans (congrArg some (by kernel_rfl))
  t4 := Tryz.underlying4
  a4 := Tryz.isAgg4
  z4 := Tryz.sizeOf4
  v4 := Tryz.zeroValue4
  t21 := Tryz.underlying21
  a21 := Tryz.isAgg21
  z21 := Tryz.sizeOf21
  v21 := Tryz.zeroValue21 }
/-- utf8.ValidRune: "ValidRune reports whether r can be legally encoded as UTF-8. Code points that are out of range or a surrogate half are illegal.": IT RETURNS 'Lib.validRune r'; the world is as it was. (LAID: no walk: one application.) -/
theorem Tryz.utf8_ValidRune (r : Int) (w : World) :
    Calls Tryz.prog 26 #[.int .i32 r] w fun e w' => e = .returned (.bool (Lib.validRune r)) ∧ w' = w := Any.utf8_ValidRune Tryz.lays119 r w
def Tryz.lays103_ren : Go.Shelf.Ren := ⟨fun | 103 => 12 | 210 => 27 | 206 => 44 | n => n, fun | 9 => 9 | 4 => 4 | 24 => 31 | 3 => 3 | n => n, fun | n => n⟩
theorem Tryz.lays103 : Go.Proofs.Lays.n103 Tryz.prog Tryz.lays103_ren := {
  mixed := by kernel_rfl
  f103 := Tryz.func12.trans (congrArg some (by kernel_rfl))
  f206 := Tryz.func44.trans (congrArg some (by kernel_rfl))
  f210 := Tryz.func27.trans (congrArg some (by kernel_rfl))
  t3 := Tryz.underlying3
  a3 := Tryz.isAgg3
  z3 := Tryz.sizeOf3
  v3 := Tryz.zeroValue3
  t4 := Tryz.underlying4
  a4 := Tryz.isAgg4
  z4 := Tryz.sizeOf4
  v4 := Tryz.zeroValue4
  t9 := Tryz.underlying9
  a9 := Tryz.isAgg9
  z9 := Tryz.sizeOf9
  v9 := Tryz.zeroValue9
  t24 := Tryz.underlying31
  a24 := Tryz.isAgg31
  z24 := Tryz.sizeOf31
  v24 := Tryz.zeroValue31 }
open Go.RowKit in
/-- strings.CutPrefix: "CutPrefix returns s without the provided leading prefix string and reports whether it found the prefix. If s doesn't start with prefix, CutPrefix returns s, false. If prefix is the empty string, CutPrefix returns s, true.": IT RETURNS '(Lib.trimPrefix s p, Lib.hasPrefix s p)'; the world is as it was. (LAID: no walk: one application.) -/
theorem Tryz.strings_CutPrefix (s p : ByteArray) (w : World) :
    Calls Tryz.prog 12 #[.string s, .string p] w fun e w' => e = .returned (.tuple #[.string ⟨(Lib.trimPrefix s.data.toList p.data.toList).toArray⟩, .bool (Lib.hasPrefix s.data.toList p.data.toList)]) ∧ w' = w := Any.strings_CutPrefix Tryz.lays103 s p w
def Tryz.lays242_ren : Go.Shelf.Ren := ⟨fun | 242 => 15 | 278 => 30 | n => n, fun | 37 => 42 | 21 => 21 | 51 => 53 | 4 => 4 | 5 => 5 | 46 => 90 | n => n, fun | n => n⟩
theorem Tryz.lays242 : Go.Proofs.Lays.n242 Tryz.prog Tryz.lays242_ren := {
  mixed := by kernel_rfl
  f242 := Tryz.func15.trans (congrArg some (by kernel_rfl))
  f278 := Tryz.func30.trans (congrArg some (by kernel_rfl))
  t4 := Tryz.underlying4
  a4 := Tryz.isAgg4
  z4 := Tryz.sizeOf4
  v4 := Tryz.zeroValue4
  t5 := Tryz.underlying5
  a5 := Tryz.isAgg5
  z5 := Tryz.sizeOf5
  v5 := Tryz.zeroValue5
  t21 := Tryz.underlying21
  a21 := Tryz.isAgg21
  z21 := Tryz.sizeOf21
  v21 := Tryz.zeroValue21
  t37 := Tryz.underlying42
  a37 := Tryz.isAgg42
  z37 := Tryz.sizeOf42
  v37 := Tryz.zeroValue42
  t46 := Tryz.underlying90
  a46 := Tryz.isAgg90
  z46 := Tryz.sizeOf90
  v46 := Tryz.zeroValue90
  t51 := Tryz.underlying53
  a51 := Tryz.isAgg53
  z51 := Tryz.sizeOf53
  v51 := Tryz.zeroValue53 }
open Go.RowKit in
/-- unicode/utf8.AppendRune: "AppendRune appends the UTF-8 encoding of r to the end of p and returns the extended buffer. If the rune is out of range, it appends the encoding of RuneError.": ONTO A ROW OF BYTES THAT THE CALL OWNS (its head frozen or not): EVERY int32: 'Lib.runeCells r' goes in behind what the row holds; the world: one new block (the bytes as the call's variadic argument), then what 'append' does to the row. (LAID: no walk: one application.) -/
theorem Tryz.utf8_AppendRune_row (B : Nat) (v : Value) (n : Nat) (xs : List Value) (r : Int) (hr0 : -2147483648 ≤ r) (hr1 : r ≤ 2147483647) (w : World) (hown : w.ownsRowF B 5 1 v n xs) (hlen : n + 4 ≤ 140737488355328) (hBw : B ≤ w.heap.size) :
    Calls Tryz.prog 15 #[v, .int .i32 r] w fun e w' => ∃ v', e = .returned v' ∧ w'.ownsRowF B 5 1 v' (n + (Lib.runeCells r).length) (xs ++ Lib.runeCells r) ∧ ∃ o, (w.alloc o).grownBy w' v.ownBlock := Any.utf8_AppendRune_row Tryz.lays242 (by kernel_rfl) B v n xs r hr0 hr1 w hown hlen hBw
open Go.RowKit in
/-- unicode/utf8.AppendRune: "AppendRune appends the UTF-8 encoding of r to the end of p and returns the extended buffer. If the rune is out of range, it appends the encoding of RuneError.": ONTO A ROW OF BYTES THAT THE CALL OWNS (its head frozen or not): EVERY int32: 'Lib.runeCells r' goes in behind what the row holds; the world: one new block (the bytes as the call's variadic argument), then what 'append' does to the row. (LAID: no walk: one application.) -/
theorem Tryz.utf8_AppendRune_plain (B : Nat) (v : Value) (n : Nat) (xs : List Value) (r : Int) (hr0 : -2147483648 ≤ r) (hr1 : r ≤ 2147483647) (w : World) (hown : w.ownsRow B 5 1 v n xs) (hlen : n + 4 ≤ 140737488355328) (hBw : B ≤ w.heap.size) :
    Calls Tryz.prog 15 #[v, .int .i32 r] w fun e w' => ∃ v', e = .returned v' ∧ w'.ownsRow B 5 1 v' (n + (Lib.runeCells r).length) (xs ++ Lib.runeCells r) ∧ ∃ o, (w.alloc o).grownBy w' v.ownBlock := Any.utf8_AppendRune_plain Tryz.lays242 (by kernel_rfl) B v n xs r hr0 hr1 w hown hlen hBw
def Tryz.lays144_ren : Go.Shelf.Ren := ⟨fun | 144 => 34 | 143 => 50 | 219 => 47 | 217 => 80 | 225 => 81 | 224 => 82 | 267 => 83 | 266 => 99 | 314 => 100 | n => n, fun | 9 => 9 | 4 => 4 | 3 => 3 | 5 => 5 | 46 => 90 | 146 => 126 | 51 => 53 | n => n, fun | 1 => 3 | n => n⟩
theorem Tryz.lays144 : Go.Proofs.Lays.n144 Tryz.prog Tryz.lays144_ren := {
  mixed := by kernel_rfl
  f143 := Tryz.func50.trans (congrArg some (by kernel_rfl))
  f144 := Tryz.func34.trans (congrArg some (by kernel_rfl))
  f217 := Tryz.func80.trans (congrArg some (by kernel_rfl))
  f219 := Tryz.func47.trans (congrArg some (by kernel_rfl))
  f224 := Tryz.func82.trans (congrArg some (by kernel_rfl))
  f225 := Tryz.func81.trans (congrArg some (by kernel_rfl))
  f266 := Tryz.func99.trans (congrArg some (by kernel_rfl))
  f267 := Tryz.func83.trans (congrArg some (by kernel_rfl))
  f314 := Tryz.func100.trans (congrArg some (by kernel_rfl))
  t3 := Tryz.underlying3
  a3 := Tryz.isAgg3
  z3 := Tryz.sizeOf3
  v3 := Tryz.zeroValue3
  t4 := Tryz.underlying4
  a4 := Tryz.isAgg4
  z4 := Tryz.sizeOf4
  v4 := Tryz.zeroValue4
  t5 := Tryz.underlying5
  a5 := Tryz.isAgg5
  z5 := Tryz.sizeOf5
  v5 := Tryz.zeroValue5
  t9 := Tryz.underlying9
  a9 := Tryz.isAgg9
  z9 := Tryz.sizeOf9
  v9 := Tryz.zeroValue9
  t46 := Tryz.underlying90
  a46 := Tryz.isAgg90
  z46 := Tryz.sizeOf90
  v46 := Tryz.zeroValue90
  t51 := Tryz.underlying53
  a51 := Tryz.isAgg53
  z51 := Tryz.sizeOf53
  v51 := Tryz.zeroValue53
  t146 := Tryz.underlying126
  a146 := Tryz.isAgg126
  z146 := Tryz.sizeOf126
  v146 := Tryz.zeroValue126
  g1 := by kernel_rfl }
open Go.RowKit Go.Lib in
/-- strings.Contains: "Contains reports whether substr is within s.": IT RETURNS 'Lib.contains s substr'; the world is as it was. (LAID: no walk: one application.) -/
theorem Tryz.strings_Contains (s sub : ByteArray) (m : Int) (w : World) (hs : s.size < 4294967281) (hm : w.cell? ⟨3, 0, none⟩ = some (.int .i64 m)) :
    Calls Tryz.prog 34 #[.string s, .string sub] w fun e w' => e = .returned (.bool (Lib.contains s.data.toList sub.data.toList)) ∧ w' = w := Any.strings_Contains Tryz.lays144 s sub m w hs hm
def Tryz.lays145_ren : Go.Shelf.Ren := ⟨fun | 145 => 13 | 220 => 28 | 219 => 47 | 217 => 80 | 225 => 81 | 224 => 82 | 267 => 83 | 266 => 99 | 314 => 100 | n => n, fun | 9 => 9 | 4 => 4 | 59 => 39 | 3 => 3 | 5 => 5 | 46 => 90 | 146 => 126 | 51 => 53 | n => n, fun | 1 => 3 | n => n⟩
theorem Tryz.lays145 : Go.Proofs.Lays.n145 Tryz.prog Tryz.lays145_ren := {
  mixed := by kernel_rfl
  f145 := Tryz.func13.trans (congrArg some (by kernel_rfl))
  f217 := Tryz.func80.trans (congrArg some (by kernel_rfl))
  f219 := Tryz.func47.trans (congrArg some (by kernel_rfl))
  f220 := Tryz.func28.trans (congrArg some (by kernel_rfl))
  f224 := Tryz.func82.trans (congrArg some (by kernel_rfl))
  f225 := Tryz.func81.trans (congrArg some (by kernel_rfl))
  f266 := Tryz.func99.trans (congrArg some (by kernel_rfl))
  f267 := Tryz.func83.trans (congrArg some (by kernel_rfl))
  f314 := Tryz.func100.trans (congrArg some (by kernel_rfl))
  t3 := Tryz.underlying3
  a3 := Tryz.isAgg3
  z3 := Tryz.sizeOf3
  v3 := Tryz.zeroValue3
  t4 := Tryz.underlying4
  a4 := Tryz.isAgg4
  z4 := Tryz.sizeOf4
  v4 := Tryz.zeroValue4
  t5 := Tryz.underlying5
  a5 := Tryz.isAgg5
  z5 := Tryz.sizeOf5
  v5 := Tryz.zeroValue5
  t9 := Tryz.underlying9
  a9 := Tryz.isAgg9
  z9 := Tryz.sizeOf9
  v9 := Tryz.zeroValue9
  t46 := Tryz.underlying90
  a46 := Tryz.isAgg90
  z46 := Tryz.sizeOf90
  v46 := Tryz.zeroValue90
  t51 := Tryz.underlying53
  a51 := Tryz.isAgg53
  z51 := Tryz.sizeOf53
  v51 := Tryz.zeroValue53
  t59 := Tryz.underlying39
  a59 := Tryz.isAgg39
  z59 := Tryz.sizeOf39
  v59 := Tryz.zeroValue39
  t146 := Tryz.underlying126
  a146 := Tryz.isAgg126
  z146 := Tryz.sizeOf126
  v146 := Tryz.zeroValue126
  g1 := by kernel_rfl }
open Go.RowKit Go.Lib in
/-- strings.Cut: "Cut slices s around the first instance of sep, returning the text before and after sep. The found result reports whether sep appears in s. If sep does not appear in s, cut returns s, "", false.": IT RETURNS 'Lib.cut s sep'; the world is as it was but for the count of draws. (LAID: no walk: one application.) -/
theorem Tryz.strings_Cut (s sep : ByteArray) (m : Int) (w : World) (hs : s.size < 4294967281) (hm : w.cell? ⟨3, 0, none⟩ = some (.int .i64 m)) :
    Calls Tryz.prog 13 #[.string s, .string sep] w fun e w' => e = .returned (.tuple #[.string ⟨(Lib.cut s.data.toList sep.data.toList).1.toArray⟩, .string ⟨(Lib.cut s.data.toList sep.data.toList).2.1.toArray⟩, .bool (Lib.cut s.data.toList sep.data.toList).2.2]) ∧ ∃ n, w' = w.drewN n := Any.strings_Cut Tryz.lays145 s sep m w hs hm
def Tryz.lays99_ren : Go.Shelf.Ren := ⟨fun | 99 => 22 | 206 => 44 | n => n, fun | 9 => 9 | 4 => 4 | 3 => 3 | n => n, fun | n => n⟩
theorem Tryz.lays99 : Go.Proofs.Lays.n99 Tryz.prog Tryz.lays99_ren := {
  mixed := by kernel_rfl
  f99 := Tryz.func22.trans (congrArg some (by kernel_rfl))
  f206 := Tryz.func44.trans (congrArg some (by kernel_rfl))
  t3 := Tryz.underlying3
  a3 := Tryz.isAgg3
  z3 := Tryz.sizeOf3
  v3 := Tryz.zeroValue3
  t4 := Tryz.underlying4
  a4 := Tryz.isAgg4
  z4 := Tryz.sizeOf4
  v4 := Tryz.zeroValue4
  t9 := Tryz.underlying9
  a9 := Tryz.isAgg9
  z9 := Tryz.sizeOf9
  v9 := Tryz.zeroValue9 }
open Go.RowKit Go.Lib in
/-- strings.HasPrefix: "HasPrefix reports whether the string s begins with prefix.": IT RETURNS 'Lib.hasPrefix s prefix'; the world is as it was. (LAID: no walk: one application.) -/
theorem Tryz.strings_HasPrefix (s p : ByteArray) (w : World) :
    Calls Tryz.prog 22 #[.string s, .string p] w fun e w' => e = .returned (.bool (Lib.hasPrefix s.data.toList p.data.toList)) ∧ w' = w := Any.strings_HasPrefix Tryz.lays99 s p w
def Tryz.lays155_ren : Go.Shelf.Ren := ⟨fun | 155 => 14 | 154 => 29 | 138 => 48 | 165 => 49 | 143 => 50 | 166 => 51 | 197 => 23 | 169 => 52 | 195 => 84 | 218 => 85 | 240 => 86 | 241 => 87 | 219 => 47 | 260 => 45 | 276 => 101 | 277 => 102 | 217 => 80 | 225 => 81 | 224 => 82 | 267 => 83 | 266 => 99 | 314 => 100 | n => n, fun | 9 => 9 | 3 => 3 | 4 => 4 | 72 => 83 | 0 => 0 | 76 => 87 | 105 => 59 | 21 => 21 | 5 => 5 | 70 => 81 | 20 => 20 | 37 => 42 | 75 => 86 | 127 => 123 | 164 => 136 | 46 => 90 | 119 => 114 | 139 => 117 | 138 => 116 | 146 => 126 | 51 => 53 | 80 => 89 | n => n, fun | 1 => 3 | 3 => 1 | 4 => 2 | n => n⟩
theorem Tryz.lays155 : Go.Proofs.Lays.n155 Tryz.prog Tryz.lays155_ren := {
  mixed := by kernel_rfl
  f138 := Tryz.func48.trans (congrArg some (by kernel_rfl))
  f143 := Tryz.func50.trans (congrArg some (by kernel_rfl))
  f154 := Tryz.func29.trans (congrArg some (by kernel_rfl))
  f155 := Tryz.func14.trans (congrArg some (by kernel_rfl))
  f165 := Tryz.func49.trans (congrArg some (by kernel_rfl))
  f166 := Tryz.func51.trans (congrArg some (by kernel_rfl))
  f169 := Tryz.func52.trans (congrArg some (by kernel_rfl))
  f195 := Tryz.func84.trans (congrArg some (by kernel_rfl))
  f197 := Tryz.func23.trans (congrArg some (by kernel_rfl))
  f217 := Tryz.func80.trans (congrArg some (by kernel_rfl))
  f218 := Tryz.func85.trans (congrArg some (by kernel_rfl))
  f219 := Tryz.func47.trans (congrArg some (by kernel_rfl))
  f224 := Tryz.func82.trans (congrArg some (by kernel_rfl))
  f225 := Tryz.func81.trans (congrArg some (by kernel_rfl))
  f240 := Tryz.func86.trans (congrArg some (by kernel_rfl))
  f241 := Tryz.func87.trans (congrArg some (by kernel_rfl))
  f260 := Tryz.func45.trans (congrArg some (by kernel_rfl))
  f266 := Tryz.func99.trans (congrArg some (by kernel_rfl))
  f267 := Tryz.func83.trans (congrArg some (by kernel_rfl))
  f276 := Tryz.func101.trans (congrArg some (by kernel_rfl))
  f277 := Tryz.func102.trans (congrArg some (by kernel_rfl))
  f314 := Tryz.func100.trans (congrArg some (by kernel_rfl))
  t0 := Tryz.underlying0
  a0 := Tryz.isAgg0
  z0 := Tryz.sizeOf0
  v0 := Tryz.zeroValue0
  t3 := Tryz.underlying3
  a3 := Tryz.isAgg3
  z3 := Tryz.sizeOf3
  v3 := Tryz.zeroValue3
  t4 := Tryz.underlying4
  a4 := Tryz.isAgg4
  z4 := Tryz.sizeOf4
  v4 := Tryz.zeroValue4
  t5 := Tryz.underlying5
  a5 := Tryz.isAgg5
  z5 := Tryz.sizeOf5
  v5 := Tryz.zeroValue5
  t9 := Tryz.underlying9
  a9 := Tryz.isAgg9
  z9 := Tryz.sizeOf9
  v9 := Tryz.zeroValue9
  t20 := Tryz.underlying20
  a20 := Tryz.isAgg20
  z20 := Tryz.sizeOf20
  v20 := Tryz.zeroValue20
  t21 := Tryz.underlying21
  a21 := Tryz.isAgg21
  z21 := Tryz.sizeOf21
  v21 := Tryz.zeroValue21
  t37 := Tryz.underlying42
  a37 := Tryz.isAgg42
  z37 := Tryz.sizeOf42
  v37 := Tryz.zeroValue42
  t46 := Tryz.underlying90
  a46 := Tryz.isAgg90
  z46 := Tryz.sizeOf90
  v46 := Tryz.zeroValue90
  t51 := Tryz.underlying53
  a51 := Tryz.isAgg53
  z51 := Tryz.sizeOf53
  v51 := Tryz.zeroValue53
  t70 := Tryz.underlying81
  a70 := Tryz.isAgg81
  z70 := Tryz.sizeOf81
  v70 := Tryz.zeroValue81
  t72 := Tryz.underlying83
  a72 := Tryz.isAgg83
  z72 := Tryz.sizeOf83
  v72 := Tryz.zeroValue83
  t75 := Tryz.underlying86
  a75 := Tryz.isAgg86
  z75 := Tryz.sizeOf86
  v75 := Tryz.zeroValue86
  t76 := Tryz.underlying87
  a76 := Tryz.isAgg87
  z76 := Tryz.sizeOf87
  v76 := Tryz.zeroValue87
  t105 := Tryz.underlying59
  a105 := Tryz.isAgg59
  z105 := Tryz.sizeOf59
  v105 := Tryz.zeroValue59
  t119 := Tryz.underlying114
  a119 := Tryz.isAgg114
  z119 := Tryz.sizeOf114
  t127 := Tryz.underlying123
  a127 := Tryz.isAgg123
  z127 := Tryz.sizeOf123
  v127 := Tryz.zeroValue123
  t138 := Tryz.underlying116
  a138 := Tryz.isAgg116
  z138 := Tryz.sizeOf116
  v138 := Tryz.zeroValue116
  t139 := Tryz.underlying117
  a139 := Tryz.isAgg117
  z139 := Tryz.sizeOf117
  v139 := Tryz.zeroValue117
  t146 := Tryz.underlying126
  a146 := Tryz.isAgg126
  z146 := Tryz.sizeOf126
  v146 := Tryz.zeroValue126
  t164 := Tryz.underlying136
  a164 := Tryz.isAgg136
  z164 := Tryz.sizeOf136
  v164 := Tryz.zeroValue136
  g1 := by kernel_rfl
  g3 := by kernel_rfl
  g4 := by kernel_rfl }
theorem Tryz.Builder_Extra_155 : Builder.Extra Tryz.prog Tryz.lays155_ren := {
  sizeBuilder := by kernel_rfl
  liesBuilder := by kernel_rfl
  t5 := Tryz.underlying5
  a5 := Tryz.isAgg5
  z5 := Tryz.sizeOf5
  v5 := Tryz.zeroValue5
  infoByte := by kernel_rfl
  cellsByte := by kernel_rfl
  sizeByte := by kernel_rfl
  neB5 := by decide }
open Go.RowKit Go.Lib in
/-- strings.ReplaceAll: "ReplaceAll returns a copy of the string s with all non-overlapping instances of old replaced by new.": AT AN old THAT IS NOT EMPTY: 'Lib.replaceAll s old new'. (LAID: no walk: one application.) -/
theorem Tryz.strings_ReplaceAll (s old new : ByteArray) (m : Int) (w : World) (hs : s.size < 4294967281) (hm : w.cell? ⟨3, 0, none⟩ = some (.int .i64 m)) (h1 : 1 ≤ old.size) (hlen : s.size + Lib.countB s old * new.size ≤ 140737488355328) :
    Calls Tryz.prog 14 #[.string s, .string old, .string new] w fun e w' =>
      e = .returned (.string ⟨(Lib.replaceAll s.data.toList old.data.toList new.data.toList).toArray⟩) ∧ Below w.heap.size w w' := Any.strings_ReplaceAll Tryz.lays155 Tryz.Builder_Extra_155 s old new m w hs hm h1 hlen
def Tryz.lays197_ren : Go.Shelf.Ren := ⟨fun | 197 => 23 | 260 => 45 | n => n, fun | 9 => 9 | 21 => 21 | 3 => 3 | 4 => 4 | 5 => 5 | 105 => 59 | 119 => 114 | 0 => 0 | 46 => 90 | 139 => 117 | 138 => 116 | n => n, fun | 3 => 1 | 4 => 2 | n => n⟩
theorem Tryz.lays197 : Go.Proofs.Lays.n197 Tryz.prog Tryz.lays197_ren := {
  mixed := by kernel_rfl
  f197 := Tryz.func23.trans (congrArg some (by kernel_rfl))
  f260 := Tryz.func45.trans (congrArg some (by kernel_rfl))
  t0 := Tryz.underlying0
  a0 := Tryz.isAgg0
  z0 := Tryz.sizeOf0
  v0 := Tryz.zeroValue0
  t3 := Tryz.underlying3
  a3 := Tryz.isAgg3
  z3 := Tryz.sizeOf3
  v3 := Tryz.zeroValue3
  t4 := Tryz.underlying4
  a4 := Tryz.isAgg4
  z4 := Tryz.sizeOf4
  v4 := Tryz.zeroValue4
  t5 := Tryz.underlying5
  a5 := Tryz.isAgg5
  z5 := Tryz.sizeOf5
  v5 := Tryz.zeroValue5
  t9 := Tryz.underlying9
  a9 := Tryz.isAgg9
  z9 := Tryz.sizeOf9
  v9 := Tryz.zeroValue9
  t21 := Tryz.underlying21
  a21 := Tryz.isAgg21
  z21 := Tryz.sizeOf21
  v21 := Tryz.zeroValue21
  t46 := Tryz.underlying90
  a46 := Tryz.isAgg90
  z46 := Tryz.sizeOf90
  v46 := Tryz.zeroValue90
  t105 := Tryz.underlying59
  a105 := Tryz.isAgg59
  z105 := Tryz.sizeOf59
  v105 := Tryz.zeroValue59
  t119 := Tryz.underlying114
  a119 := Tryz.isAgg114
  z119 := Tryz.sizeOf114
  t138 := Tryz.underlying116
  a138 := Tryz.isAgg116
  z138 := Tryz.sizeOf116
  v138 := Tryz.zeroValue116
  t139 := Tryz.underlying117
  a139 := Tryz.isAgg117
  z139 := Tryz.sizeOf117
  v139 := Tryz.zeroValue117
  g3 := by kernel_rfl
  g4 := by kernel_rfl }
def Tryz.lays105_ren : Go.Shelf.Ren := ⟨fun | 105 => 37 | 212 => 64 | 99 => 22 | 165 => 49 | 166 => 51 | 170 => 65 | 169 => 52 | 263 => 92 | 264 => 93 | 206 => 44 | 240 => 86 | 241 => 87 | 276 => 101 | 277 => 102 | n => n, fun | 9 => 9 | 3 => 3 | 4 => 4 | 20 => 20 | 0 => 0 | 46 => 90 | 109 => 105 | 5 => 5 | 72 => 83 | 76 => 87 | 51 => 53 | 146 => 126 | 53 => 77 | 148 => 128 | 70 => 81 | 37 => 42 | 75 => 86 | 127 => 123 | 164 => 136 | 80 => 89 | n => n, fun | n => n⟩
theorem Tryz.lays105 : Go.Proofs.Lays.n105 Tryz.prog Tryz.lays105_ren := {
  mixed := by kernel_rfl
  f99 := Tryz.func22.trans (congrArg some (by kernel_rfl))
  f105 := Tryz.func37.trans (congrArg some (by kernel_rfl))
  f165 := Tryz.func49.trans (congrArg some (by kernel_rfl))
  f166 := Tryz.func51.trans (congrArg some (by kernel_rfl))
  f169 := Tryz.func52.trans (congrArg some (by kernel_rfl))
  f170 := Tryz.func65.trans (congrArg some (by kernel_rfl))
  f206 := Tryz.func44.trans (congrArg some (by kernel_rfl))
  f212 := Tryz.func64.trans (congrArg some (by kernel_rfl))
  f240 := Tryz.func86.trans (congrArg some (by kernel_rfl))
  f241 := Tryz.func87.trans (congrArg some (by kernel_rfl))
  f263 := Tryz.func92.trans (congrArg some (by kernel_rfl))
  f264 := Tryz.func93.trans (congrArg some (by kernel_rfl))
  f276 := Tryz.func101.trans (congrArg some (by kernel_rfl))
  f277 := Tryz.func102.trans (congrArg some (by kernel_rfl))
  t0 := Tryz.underlying0
  a0 := Tryz.isAgg0
  z0 := Tryz.sizeOf0
  v0 := Tryz.zeroValue0
  t3 := Tryz.underlying3
  a3 := Tryz.isAgg3
  z3 := Tryz.sizeOf3
  v3 := Tryz.zeroValue3
  t4 := Tryz.underlying4
  a4 := Tryz.isAgg4
  z4 := Tryz.sizeOf4
  v4 := Tryz.zeroValue4
  t5 := Tryz.underlying5
  a5 := Tryz.isAgg5
  z5 := Tryz.sizeOf5
  v5 := Tryz.zeroValue5
  t9 := Tryz.underlying9
  a9 := Tryz.isAgg9
  z9 := Tryz.sizeOf9
  v9 := Tryz.zeroValue9
  t20 := Tryz.underlying20
  a20 := Tryz.isAgg20
  z20 := Tryz.sizeOf20
  v20 := Tryz.zeroValue20
  t37 := Tryz.underlying42
  a37 := Tryz.isAgg42
  z37 := Tryz.sizeOf42
  v37 := Tryz.zeroValue42
  t46 := Tryz.underlying90
  a46 := Tryz.isAgg90
  z46 := Tryz.sizeOf90
  v46 := Tryz.zeroValue90
  t51 := Tryz.underlying53
  a51 := Tryz.isAgg53
  z51 := Tryz.sizeOf53
  v51 := Tryz.zeroValue53
  t53 := Tryz.underlying77
  a53 := Tryz.isAgg77
  z53 := Tryz.sizeOf77
  v53 := Tryz.zeroValue77
  t70 := Tryz.underlying81
  a70 := Tryz.isAgg81
  z70 := Tryz.sizeOf81
  v70 := Tryz.zeroValue81
  t72 := Tryz.underlying83
  a72 := Tryz.isAgg83
  z72 := Tryz.sizeOf83
  v72 := Tryz.zeroValue83
  t75 := Tryz.underlying86
  a75 := Tryz.isAgg86
  z75 := Tryz.sizeOf86
  v75 := Tryz.zeroValue86
  t76 := Tryz.underlying87
  a76 := Tryz.isAgg87
  z76 := Tryz.sizeOf87
  v76 := Tryz.zeroValue87
  t109 := Tryz.underlying105
  a109 := Tryz.isAgg105
  z109 := Tryz.sizeOf105
  v109 := Tryz.zeroValue105
  t127 := Tryz.underlying123
  a127 := Tryz.isAgg123
  z127 := Tryz.sizeOf123
  v127 := Tryz.zeroValue123
  t146 := Tryz.underlying126
  a146 := Tryz.isAgg126
  z146 := Tryz.sizeOf126
  v146 := Tryz.zeroValue126
  t148 := Tryz.underlying128
  a148 := Tryz.isAgg128
  z148 := Tryz.sizeOf128
  v148 := Tryz.zeroValue128
  t164 := Tryz.underlying136
  a164 := Tryz.isAgg136
  z164 := Tryz.sizeOf136
  v164 := Tryz.zeroValue136 }
theorem Tryz.Builder_Extra_105 : Builder.Extra Tryz.prog Tryz.lays105_ren := {
  sizeBuilder := by kernel_rfl
  liesBuilder := by kernel_rfl
  t5 := Tryz.underlying5
  a5 := Tryz.isAgg5
  z5 := Tryz.sizeOf5
  v5 := Tryz.zeroValue5
  infoByte := by kernel_rfl
  cellsByte := by kernel_rfl
  sizeByte := by kernel_rfl
  neB5 := by decide }
open Go.RowKit Go.Lib in
/-- **unicode/utf8.DecodeRuneInString AT EVERY STRING.** (LAID: no walk: one application.) -/
theorem Tryz.utf8_DecodeRuneInString (s : ByteArray) (w : World) (hT : Lib.Utf8Tabs 1 2 w) :
    Calls Tryz.prog 23 #[.string s] w fun e w' => e = .returned (.tuple #[.int .i32 (Lib.decodeGo s).1, .int .i64 (Lib.decodeGo s).2]) ∧ Below w.heap.size w w' := Any.utf8_DecodeRuneInString Tryz.lays197 s w hT
def Tryz.laysH8_ren : Go.Shelf.Ren := ⟨fun | 8 => 62 | 6 => 91 | n => n, fun | 22 => 42 | 23 => 5 | 25 => 98 | 4 => 4 | 3 => 3 | 0 => 0 | n => n, fun | n => n⟩
theorem Tryz.laysH8 : Go.Proofs.SlLaysH.n8 Tryz.prog Tryz.laysH8_ren := {
  mixed := by kernel_rfl
  f6 := ⟨Tryz.f91.name, by decide, Tryz.func91.trans (congrArg some (by kernel_rfl))⟩
  f8 := ⟨Tryz.f62.name, by decide, Tryz.func62.trans (congrArg some (by kernel_rfl))⟩
  t0 := Tryz.underlying0
  a0 := Tryz.isAgg0
  z0 := Tryz.sizeOf0
  v0 := Tryz.zeroValue0
  t3 := Tryz.underlying3
  a3 := Tryz.isAgg3
  z3 := Tryz.sizeOf3
  v3 := Tryz.zeroValue3
  t4 := Tryz.underlying4
  a4 := Tryz.isAgg4
  z4 := Tryz.sizeOf4
  v4 := Tryz.zeroValue4
  t22 := Tryz.underlying42
  a22 := Tryz.isAgg42
  z22 := Tryz.sizeOf42
  v22 := Tryz.zeroValue42
  a23 := Tryz.isAgg5
  z23 := Tryz.sizeOf5
  t25 := Tryz.underlying98
  a25 := Tryz.isAgg98
  z25 := Tryz.sizeOf98
  v25 := Tryz.zeroValue98 }
end Go.Proofs
