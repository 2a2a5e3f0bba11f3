/- DERIVED: THE SHELF's CONTRACTS AT THIS DUMP, IN PLAIN WORDS (tools/lay-plain.mjs out of 'YtdohdncgjendkaaDoorShelf.lean', which tools/lay-shelf.mjs wrote): THE SAME DECLARATIONS UNDER THE SAME NAMES: 'import', 'namespace', 'open', 'def', 'theorem' AND NOTHING ELSE: no command of the shelf's: FOR A HAND-IN. Each laying: the table of numbers ('.._ren') and one theorem, a field a fact of the dump's own or the kernel's comparison; each contract: ONE APPLICATION. The library's functions by the shelf's contracts. What the rows of this seat ask besides the walks. -/
import Derived.Shelf.Small.Utf8
import Derived.Shelf.Small.Strs
import Derived.Shelf.Strings.Search1
import Derived.Shelf.Strings.Search2
import Derived.Shelf.Strings.Search3
import Derived.Shelf.LaysM
import Derived.Shelf.Strings.Shaped
import Derived.Shelf.Unicode.Decode
import Derived.Shelf.Strings.Runes
import Derived.Shelf.Strings.AsciiSet
import Derived.Shelf.Unicode.DecodeSlow
import Derived.Shelf.Unicode.DecodeAny
import Derived.Test.YtdohdncgjendkaaDoorProg
import Derived.Test.YtdohdncgjendkaaDoorED
import Derived.Test.YtdohdncgjendkaaDoorEC
import Derived.Test.YtdohdncgjendkaaDoorRows
import Derived.Test.YtdohdncgjendkaaDoorTie
import Derived.Test.YtdohdncgjendkaaDoorCards
import Derived.Lay
namespace Go.Proofs
open Go.Shelf
def Tryd.lays119_ren : Go.Shelf.Ren := ⟨fun | 119 => 103 | n => n, fun | 21 => 21 | 4 => 4 | n => n, fun | n => n⟩
theorem Tryd.lays119 : Go.Proofs.Lays.n119 Tryd.prog Tryd.lays119_ren := {
 mixed := by kernel_rfl
 f119 := Tryd.func103.trans (congrArg some (by kernel_rfl))
 t4 := Tryd.underlying4
 a4 := Tryd.isAgg4
 z4 := Tryd.sizeOf4
 v4 := Tryd.zeroValue4
 t21 := Tryd.underlying21
 a21 := Tryd.isAgg21
 z21 := Tryd.sizeOf21
 v21 := Tryd.zeroValue21 }
/-- utf8.ValidRune: "ValidRune reports whether r can be legally encoded as UTF-8. Code points that are out of range or a surrogate half are illegal.": IT RETURNS 'Lib.validRune r'; the world is as it was. (LAID: no walk: one application.) -/
theorem Tryd.utf8_ValidRune (r : Int) (w : World) :
  Calls Tryd.prog 103 #[.int .i32 r] w fun e w' => e = .returned (.bool (Lib.validRune r)) ∧ w' = w := Any.utf8_ValidRune Tryd.lays119 r w
def Tryd.lays137_ren : Go.Shelf.Ren := ⟨fun | 137 => 46 | 217 => 61 | 266 => 78 | n => n, fun | 9 => 9 | 5 => 5 | 3 => 3 | n => n, fun | n => n⟩
theorem Tryd.lays137 : Go.Proofs.Lays.n137 Tryd.prog Tryd.lays137_ren := {
 mixed := by kernel_rfl
 f137 := Tryd.func46.trans (congrArg some (by kernel_rfl))
 f217 := Tryd.func61.trans (congrArg some (by kernel_rfl))
 f266 := Tryd.func78.trans (congrArg some (by kernel_rfl))
 t3 := Tryd.underlying3
 a3 := Tryd.isAgg3
 z3 := Tryd.sizeOf3
 v3 := Tryd.zeroValue3
 t5 := Tryd.underlying5
 a5 := Tryd.isAgg5
 z5 := Tryd.sizeOf5
 v5 := Tryd.zeroValue5
 t9 := Tryd.underlying9
 a9 := Tryd.isAgg9
 z9 := Tryd.sizeOf9
 v9 := Tryd.zeroValue9 }
open Go.RowKit in
/-- strings.IndexByte: "IndexByte returns the index of the first instance of c in s, or -1 if c is not present in s.": IT RETURNS 'Lib.indexByte s c'; the world is as it was. (LAID: no walk: one application.) -/
theorem Tryd.strings_IndexByte (s : ByteArray) (c : Int) (w : World) :
  Calls Tryd.prog 46 #[.string s, .int .u8 c] w fun e w' => e = .returned (.int .i64 (Lib.indexByte s.data.toList c.toNat.toUInt8)) ∧ w' = w := Any.strings_IndexByte Tryd.lays137 s c w
def Tryd.lays217_ren : Go.Shelf.Ren := ⟨fun | 217 => 61 | 266 => 78 | n => n, fun | 9 => 9 | 5 => 5 | 3 => 3 | n => n, fun | n => n⟩
theorem Tryd.lays217 : Go.Proofs.Lays.n217 Tryd.prog Tryd.lays217_ren := {
 mixed := by kernel_rfl
 f217 := Tryd.func61.trans (congrArg some (by kernel_rfl))
 f266 := Tryd.func78.trans (congrArg some (by kernel_rfl))
 t3 := Tryd.underlying3
 a3 := Tryd.isAgg3
 z3 := Tryd.sizeOf3
 v3 := Tryd.zeroValue3
 t5 := Tryd.underlying5
 a5 := Tryd.isAgg5
 z5 := Tryd.sizeOf5
 v5 := Tryd.zeroValue5
 t9 := Tryd.underlying9
 a9 := Tryd.isAgg9
 z9 := Tryd.sizeOf9
 v9 := Tryd.zeroValue9 }
open Go.RowKit Go.Lib in
/-- internal/stringslite.IndexByte (what strings.IndexByte calls): IT RETURNS 'Lib.indexByte s c'; the world is as it was. (LAID: no walk: one application.) -/
theorem Tryd.stringslite_IndexByte (s : ByteArray) (c : Int) (w : World) :
  Calls Tryd.prog 61 #[.string s, .int .u8 c] w fun e w' => e = .returned (.int .i64 (Lib.indexByte s.data.toList c.toNat.toUInt8)) ∧ w' = w := Any.stringslite_IndexByte Tryd.lays217 s c w
def Tryd.lays224_ren : Go.Shelf.Ren := ⟨fun | 224 => 104 | n => n, fun | 3 => 3 | n => n, fun | n => n⟩
theorem Tryd.lays224 : Go.Proofs.Lays.n224 Tryd.prog Tryd.lays224_ren := {
 mixed := by kernel_rfl
 f224 := Tryd.func104.trans (congrArg some (by kernel_rfl))
 t3 := Tryd.underlying3
 a3 := Tryd.isAgg3
 z3 := Tryd.sizeOf3
 v3 := Tryd.zeroValue3 }
open Go.RowKit Go.Lib in
/-- internal/bytealg.Cutover: "Cutover reports the number of failures of IndexByte we should tolerate before switching over to Index. n is the number of bytes processed so far.": on amd64: (n + 16) / 8. (LAID: no walk: one application.) -/
theorem Tryd.bytealg_Cutover (n : Int) (h0 : 0 ≤ n) (h1 : n < 4611686018427387904) (w : World) :
  Calls Tryd.prog 104 #[.int .i64 n] w fun e w' => e = .returned (.int .i64 ((n + 16) / 8)) ∧ w' = w := Any.bytealg_Cutover Tryd.lays224 n h0 h1 w
def Tryd.lays314_ren : Go.Shelf.Ren := ⟨fun | 314 => 108 | n => n, fun | 9 => 9 | 51 => 119 | 3 => 3 | 4 => 4 | 5 => 5 | 46 => 113 | n => n, fun | n => n⟩
theorem Tryd.lays314 : Go.Proofs.Lays.n314 Tryd.prog Tryd.lays314_ren := {
 mixed := by kernel_rfl
 f314 := Tryd.func108.trans (congrArg some (by kernel_rfl))
 t3 := Tryd.underlying3
 a3 := Tryd.isAgg3
 z3 := Tryd.sizeOf3
 v3 := Tryd.zeroValue3
 t4 := Tryd.underlying4
 a4 := Tryd.isAgg4
 z4 := Tryd.sizeOf4
 v4 := Tryd.zeroValue4
 t5 := Tryd.underlying5
 a5 := Tryd.isAgg5
 z5 := Tryd.sizeOf5
 v5 := Tryd.zeroValue5
 t9 := Tryd.underlying9
 a9 := Tryd.isAgg9
 z9 := Tryd.sizeOf9
 v9 := Tryd.zeroValue9
 t46 := Tryd.underlying113
 a46 := Tryd.isAgg113
 z46 := Tryd.sizeOf113
 v46 := Tryd.zeroValue113
 t51 := Tryd.underlying119
 a51 := Tryd.isAgg119
 z51 := Tryd.sizeOf119
 v51 := Tryd.zeroValue119 }
open Go.RowKit Go.Lib in
/-- hashStr: "returns the hash and the appropriate multiplicative factor for use in Rabin-Karp algorithm": THE HASH OF ALL OF sep, AND 16777619 ^ len(sep), both in uint32. (LAID: no walk: one application.) -/
theorem Tryd.bytealg_hashStr (sep : ByteArray) (hs : sep.size < 4294967281) (w : World) :
  Calls Tryd.prog 108 #[.string sep] w fun e w' => e = .returned (.tuple #[.int .u32 (RK.H sep.data.toList % 4294967296), .int .u32 (16777619 ^ sep.size % 4294967296)]) ∧ w' = w := Any.bytealg_hashStr Tryd.lays314 sep hs w
def Tryd.lays267_ren : Go.Shelf.Ren := ⟨fun | 267 => 106 | 314 => 108 | n => n, fun | 9 => 9 | 3 => 3 | 146 => 120 | 51 => 119 | 4 => 4 | 5 => 5 | 46 => 113 | n => n, fun | n => n⟩
theorem Tryd.lays267 : Go.Proofs.Lays.n267 Tryd.prog Tryd.lays267_ren := {
 mixed := by kernel_rfl
 f267 := Tryd.func106.trans (congrArg some (by kernel_rfl))
 f314 := Tryd.func108.trans (congrArg some (by kernel_rfl))
 t3 := Tryd.underlying3
 a3 := Tryd.isAgg3
 z3 := Tryd.sizeOf3
 v3 := Tryd.zeroValue3
 t4 := Tryd.underlying4
 a4 := Tryd.isAgg4
 z4 := Tryd.sizeOf4
 v4 := Tryd.zeroValue4
 t5 := Tryd.underlying5
 a5 := Tryd.isAgg5
 z5 := Tryd.sizeOf5
 v5 := Tryd.zeroValue5
 t9 := Tryd.underlying9
 a9 := Tryd.isAgg9
 z9 := Tryd.sizeOf9
 v9 := Tryd.zeroValue9
 t46 := Tryd.underlying113
 a46 := Tryd.isAgg113
 z46 := Tryd.sizeOf113
 v46 := Tryd.zeroValue113
 t51 := Tryd.underlying119
 a51 := Tryd.isAgg119
 z51 := Tryd.sizeOf119
 v51 := Tryd.zeroValue119
 t146 := Tryd.underlying120
 a146 := Tryd.isAgg120
 z146 := Tryd.sizeOf120
 v146 := Tryd.zeroValue120 }
open Go.RowKit Go.Lib in
theorem Tryd.bytealg_IndexRabinKarp (s sep : ByteArray) (h1 : 1 ≤ sep.size) (h2 : sep.size ≤ s.size) (hs : s.size < 4294967281) (w : World) :
  Calls Tryd.prog 106 #[.string s, .string sep] w fun e w' => e = .returned (.int .i64 (Lib.index s.data.toList sep.data.toList)) ∧ w' = w := Any.bytealg_IndexRabinKarp Tryd.lays267 s sep h1 h2 hs w
def Tryd.lays219_ren : Go.Shelf.Ren := ⟨fun | 219 => 98 | 217 => 61 | 225 => 105 | 224 => 104 | 267 => 106 | 266 => 78 | 314 => 108 | n => n, fun | 9 => 9 | 3 => 3 | 4 => 4 | 5 => 5 | 46 => 113 | 146 => 120 | 51 => 119 | n => n, fun | 1 => 0 | n => n⟩
theorem Tryd.lays219 : Go.Proofs.Lays.n219 Tryd.prog Tryd.lays219_ren := {
 mixed := by kernel_rfl
 f217 := Tryd.func61.trans (congrArg some (by kernel_rfl))
 f219 := Tryd.func98.trans (congrArg some (by kernel_rfl))
 f224 := Tryd.func104.trans (congrArg some (by kernel_rfl))
 f225 := Tryd.func105.trans (congrArg some (by kernel_rfl))
 f266 := Tryd.func78.trans (congrArg some (by kernel_rfl))
 f267 := Tryd.func106.trans (congrArg some (by kernel_rfl))
 f314 := Tryd.func108.trans (congrArg some (by kernel_rfl))
 t3 := Tryd.underlying3
 a3 := Tryd.isAgg3
 z3 := Tryd.sizeOf3
 v3 := Tryd.zeroValue3
 t4 := Tryd.underlying4
 a4 := Tryd.isAgg4
 z4 := Tryd.sizeOf4
 v4 := Tryd.zeroValue4
 t5 := Tryd.underlying5
 a5 := Tryd.isAgg5
 z5 := Tryd.sizeOf5
 v5 := Tryd.zeroValue5
 t9 := Tryd.underlying9
 a9 := Tryd.isAgg9
 z9 := Tryd.sizeOf9
 v9 := Tryd.zeroValue9
 t46 := Tryd.underlying113
 a46 := Tryd.isAgg113
 z46 := Tryd.sizeOf113
 v46 := Tryd.zeroValue113
 t51 := Tryd.underlying119
 a51 := Tryd.isAgg119
 z51 := Tryd.sizeOf119
 v51 := Tryd.zeroValue119
 t146 := Tryd.underlying120
 a146 := Tryd.isAgg120
 z146 := Tryd.sizeOf120
 v146 := Tryd.zeroValue120
 g1 := by kernel_rfl }
open Go.RowKit Go.Lib in
/-- internal/stringslite.Index (what strings.Index calls) AT A substr OF ONE BYTE c: IT RETURNS 'Lib.indexByte s c'; the world is as it was. (LAID: no walk: one application.) -/
theorem Tryd.stringslite_Index_one (s : ByteArray) (c : UInt8) (w : World) :
  Calls Tryd.prog 98 #[.string s, .string ⟨#[c]⟩] w fun e w' => e = .returned (.int .i64 (Lib.indexByte s.data.toList c)) ∧ w' = w := Any.stringslite_Index_one Tryd.lays219 s c w
open Go.RowKit Go.Lib in
/-- internal/stringslite.Index (what strings.Index calls) AT A substr OF WHATEVER LENGTH: IT RETURNS 'Lib.index s substr'; the world is as it was. 'm': what internal/bytealg.MaxLen holds: whatever. (LAID: no walk: one application.) -/
theorem Tryd.stringslite_Index (s sub : ByteArray) (m : Int) (w : World) (hs : s.size < 4294967281) (hm : w.cell? ⟨0, 0, none⟩ = some (.int .i64 m)) :
  Calls Tryd.prog 98 #[.string s, .string sub] w fun e w' => e = .returned (.int .i64 (Lib.index s.data.toList sub.data.toList)) ∧ w' = w := Any.stringslite_Index Tryd.lays219 s sub m w hs hm
def Tryd.lays143_ren : Go.Shelf.Ren := ⟨fun | 143 => 90 | 219 => 98 | 217 => 61 | 225 => 105 | 224 => 104 | 267 => 106 | 266 => 78 | 314 => 108 | n => n, fun | 9 => 9 | 3 => 3 | 4 => 4 | 5 => 5 | 46 => 113 | 146 => 120 | 51 => 119 | n => n, fun | 1 => 0 | n => n⟩
theorem Tryd.lays143 : Go.Proofs.Lays.n143 Tryd.prog Tryd.lays143_ren := {
 mixed := by kernel_rfl
 f143 := Tryd.func90.trans (congrArg some (by kernel_rfl))
 f217 := Tryd.func61.trans (congrArg some (by kernel_rfl))
 f219 := Tryd.func98.trans (congrArg some (by kernel_rfl))
 f224 := Tryd.func104.trans (congrArg some (by kernel_rfl))
 f225 := Tryd.func105.trans (congrArg some (by kernel_rfl))
 f266 := Tryd.func78.trans (congrArg some (by kernel_rfl))
 f267 := Tryd.func106.trans (congrArg some (by kernel_rfl))
 f314 := Tryd.func108.trans (congrArg some (by kernel_rfl))
 t3 := Tryd.underlying3
 a3 := Tryd.isAgg3
 z3 := Tryd.sizeOf3
 v3 := Tryd.zeroValue3
 t4 := Tryd.underlying4
 a4 := Tryd.isAgg4
 z4 := Tryd.sizeOf4
 v4 := Tryd.zeroValue4
 t5 := Tryd.underlying5
 a5 := Tryd.isAgg5
 z5 := Tryd.sizeOf5
 v5 := Tryd.zeroValue5
 t9 := Tryd.underlying9
 a9 := Tryd.isAgg9
 z9 := Tryd.sizeOf9
 v9 := Tryd.zeroValue9
 t46 := Tryd.underlying113
 a46 := Tryd.isAgg113
 z46 := Tryd.sizeOf113
 v46 := Tryd.zeroValue113
 t51 := Tryd.underlying119
 a51 := Tryd.isAgg119
 z51 := Tryd.sizeOf119
 v51 := Tryd.zeroValue119
 t146 := Tryd.underlying120
 a146 := Tryd.isAgg120
 z146 := Tryd.sizeOf120
 v146 := Tryd.zeroValue120
 g1 := by kernel_rfl }
open Go.RowKit Go.Lib in
/-- strings.Index: "Index returns the index of the first instance of substr in s, or -1 if substr is not present in s.": AT A substr OF ONE BYTE c: IT RETURNS 'Lib.indexByte s c'; the world is as it was. (LAID: no walk: one application.) -/
theorem Tryd.strings_Index_one (s : ByteArray) (c : UInt8) (w : World) :
  Calls Tryd.prog 90 #[.string s, .string ⟨#[c]⟩] w fun e w' => e = .returned (.int .i64 (Lib.indexByte s.data.toList c)) ∧ w' = w := Any.strings_Index_one Tryd.lays143 s c w
open Go.RowKit Go.Lib in
/-- strings.Index: "Index returns the index of the first instance of substr in s, or -1 if substr is not present in s.": IT RETURNS 'Lib.index s substr'; the world is as it was. (LAID: no walk: one application.) -/
theorem Tryd.strings_Index (s sub : ByteArray) (m : Int) (w : World) (hs : s.size < 4294967281) (hm : w.cell? ⟨0, 0, none⟩ = some (.int .i64 m)) :
  Calls Tryd.prog 90 #[.string s, .string sub] w fun e w' => e = .returned (.int .i64 (Lib.index s.data.toList sub.data.toList)) ∧ w' = w := Any.strings_Index Tryd.lays143 s sub m w hs hm
def Tryd.lays144_ren : Go.Shelf.Ren := ⟨fun | 144 => 77 | 143 => 90 | 219 => 98 | 217 => 61 | 225 => 105 | 224 => 104 | 267 => 106 | 266 => 78 | 314 => 108 | n => n, fun | 9 => 9 | 4 => 4 | 3 => 3 | 5 => 5 | 46 => 113 | 146 => 120 | 51 => 119 | n => n, fun | 1 => 0 | n => n⟩
theorem Tryd.lays144 : Go.Proofs.Lays.n144 Tryd.prog Tryd.lays144_ren := {
 mixed := by kernel_rfl
 f143 := Tryd.func90.trans (congrArg some (by kernel_rfl))
 f144 := Tryd.func77.trans (congrArg some (by kernel_rfl))
 f217 := Tryd.func61.trans (congrArg some (by kernel_rfl))
 f219 := Tryd.func98.trans (congrArg some (by kernel_rfl))
 f224 := Tryd.func104.trans (congrArg some (by kernel_rfl))
 f225 := Tryd.func105.trans (congrArg some (by kernel_rfl))
 f266 := Tryd.func78.trans (congrArg some (by kernel_rfl))
 f267 := Tryd.func106.trans (congrArg some (by kernel_rfl))
 f314 := Tryd.func108.trans (congrArg some (by kernel_rfl))
 t3 := Tryd.underlying3
 a3 := Tryd.isAgg3
 z3 := Tryd.sizeOf3
 v3 := Tryd.zeroValue3
 t4 := Tryd.underlying4
 a4 := Tryd.isAgg4
 z4 := Tryd.sizeOf4
 v4 := Tryd.zeroValue4
 t5 := Tryd.underlying5
 a5 := Tryd.isAgg5
 z5 := Tryd.sizeOf5
 v5 := Tryd.zeroValue5
 t9 := Tryd.underlying9
 a9 := Tryd.isAgg9
 z9 := Tryd.sizeOf9
 v9 := Tryd.zeroValue9
 t46 := Tryd.underlying113
 a46 := Tryd.isAgg113
 z46 := Tryd.sizeOf113
 v46 := Tryd.zeroValue113
 t51 := Tryd.underlying119
 a51 := Tryd.isAgg119
 z51 := Tryd.sizeOf119
 v51 := Tryd.zeroValue119
 t146 := Tryd.underlying120
 a146 := Tryd.isAgg120
 z146 := Tryd.sizeOf120
 v146 := Tryd.zeroValue120
 g1 := by kernel_rfl }
open Go.RowKit Go.Lib in
/-- strings.Contains: "Contains reports whether substr is within s.": AT A substr OF ONE BYTE c: IT RETURNS 'decide (0 ≤ Lib.indexByte s c)'; the world is as it was. (LAID: no walk: one application.) -/
theorem Tryd.strings_Contains_one (s : ByteArray) (c : UInt8) (w : World) :
  Calls Tryd.prog 77 #[.string s, .string ⟨#[c]⟩] w fun e w' => e = .returned (.bool (decide (0 ≤ Lib.indexByte s.data.toList c))) ∧ w' = w := Any.strings_Contains_one Tryd.lays144 s c w
open Go.RowKit Go.Lib in
/-- strings.Contains: "Contains reports whether substr is within s.": IT RETURNS 'Lib.contains s substr'; the world is as it was. (LAID: no walk: one application.) -/
theorem Tryd.strings_Contains (s sub : ByteArray) (m : Int) (w : World) (hs : s.size < 4294967281) (hm : w.cell? ⟨0, 0, none⟩ = some (.int .i64 m)) :
  Calls Tryd.prog 77 #[.string s, .string sub] w fun e w' => e = .returned (.bool (Lib.contains s.data.toList sub.data.toList)) ∧ w' = w := Any.strings_Contains Tryd.lays144 s sub m w hs hm
def Tryd.laysM219_ren : Go.Shelf.Ren := ⟨fun | 219 => 98 | 217 => 61 | 225 => 105 | 224 => 104 | 267 => 106 | 266 => 78 | 314 => 108 | n => n, fun | 9 => 9 | 3 => 3 | 4 => 4 | 5 => 5 | 46 => 113 | 146 => 120 | 51 => 119 | n => n, fun | 1 => 0 | n => n⟩
theorem Tryd.laysM219 : Go.Proofs.LaysM.n219 Tryd.prog Tryd.laysM219_ren := {
 mixed := by kernel_rfl
 f217 := Tryd.func61.trans (congrArg some (by kernel_rfl))
 f219 := Tryd.func98.trans (congrArg some (by kernel_rfl))
 f224 := Tryd.func104.trans (congrArg some (by kernel_rfl))
 f225 := Tryd.func105.trans (congrArg some (by kernel_rfl))
 f266 := Tryd.func78.trans (congrArg some (by kernel_rfl))
 f267 := Tryd.func106.trans (congrArg some (by kernel_rfl))
 f314 := Tryd.func108.trans (congrArg some (by kernel_rfl))
 t3 := Tryd.underlying3
 a3 := Tryd.isAgg3
 z3 := Tryd.sizeOf3
 v3 := Tryd.zeroValue3
 t4 := Tryd.underlying4
 a4 := Tryd.isAgg4
 z4 := Tryd.sizeOf4
 v4 := Tryd.zeroValue4
 t5 := Tryd.underlying5
 a5 := Tryd.isAgg5
 z5 := Tryd.sizeOf5
 v5 := Tryd.zeroValue5
 t9 := Tryd.underlying9
 a9 := Tryd.isAgg9
 z9 := Tryd.sizeOf9
 v9 := Tryd.zeroValue9
 t46 := Tryd.underlying113
 a46 := Tryd.isAgg113
 z46 := Tryd.sizeOf113
 v46 := Tryd.zeroValue113
 t51 := Tryd.underlying119
 a51 := Tryd.isAgg119
 z51 := Tryd.sizeOf119
 v51 := Tryd.zeroValue119
 t146 := Tryd.underlying120
 a146 := Tryd.isAgg120
 z146 := Tryd.sizeOf120
 v146 := Tryd.zeroValue120
 g1 := by kernel_rfl
 i3 := by kernel_rfl
 i4 := by kernel_rfl
 i5 := by kernel_rfl
 i9 := by kernel_rfl
 i46 := by kernel_rfl
 i51 := by kernel_rfl
 i146 := by kernel_rfl
 m1 := by kernel_rfl
 s1_3 := fun w h => Go.Proofs.cell_of_shapedOpen_int (zero := #[.int .i64 0]) (t := 3) h (of_decide_eq_true (by kernel_rfl)) (by kernel_rfl) rfl (by kernel_rfl) (by kernel_rfl) Tryd.underlying3 }
open Go.RowKit Go.Lib in
theorem Tryd.stringslite_Index_shaped (s sub : ByteArray) (w : World) (h : w.ShapedOpen Tryd.prog) (hs : s.size < 4294967281) :
  Calls Tryd.prog 98 #[.string s, .string sub] w fun e w' => e = .returned (.int .i64 (Lib.index s.data.toList sub.data.toList)) ∧ w' = w := Any.stringslite_Index_shaped Tryd.laysM219 s sub w h hs
def Tryd.laysM143_ren : Go.Shelf.Ren := ⟨fun | 143 => 90 | 219 => 98 | 217 => 61 | 225 => 105 | 224 => 104 | 267 => 106 | 266 => 78 | 314 => 108 | n => n, fun | 9 => 9 | 3 => 3 | 4 => 4 | 5 => 5 | 46 => 113 | 146 => 120 | 51 => 119 | n => n, fun | 1 => 0 | n => n⟩
theorem Tryd.laysM143 : Go.Proofs.LaysM.n143 Tryd.prog Tryd.laysM143_ren := {
 mixed := by kernel_rfl
 f143 := Tryd.func90.trans (congrArg some (by kernel_rfl))
 f217 := Tryd.func61.trans (congrArg some (by kernel_rfl))
 f219 := Tryd.func98.trans (congrArg some (by kernel_rfl))
 f224 := Tryd.func104.trans (congrArg some (by kernel_rfl))
 f225 := Tryd.func105.trans (congrArg some (by kernel_rfl))
 f266 := Tryd.func78.trans (congrArg some (by kernel_rfl))
 f267 := Tryd.func106.trans (congrArg some (by kernel_rfl))
 f314 := Tryd.func108.trans (congrArg some (by kernel_rfl))
 t3 := Tryd.underlying3
 a3 := Tryd.isAgg3
 z3 := Tryd.sizeOf3
 v3 := Tryd.zeroValue3
 t4 := Tryd.underlying4
 a4 := Tryd.isAgg4
 z4 := Tryd.sizeOf4
 v4 := Tryd.zeroValue4
 t5 := Tryd.underlying5
 a5 := Tryd.isAgg5
 z5 := Tryd.sizeOf5
 v5 := Tryd.zeroValue5
 t9 := Tryd.underlying9
 a9 := Tryd.isAgg9
 z9 := Tryd.sizeOf9
 v9 := Tryd.zeroValue9
 t46 := Tryd.underlying113
 a46 := Tryd.isAgg113
 z46 := Tryd.sizeOf113
 v46 := Tryd.zeroValue113
 t51 := Tryd.underlying119
 a51 := Tryd.isAgg119
 z51 := Tryd.sizeOf119
 v51 := Tryd.zeroValue119
 t146 := Tryd.underlying120
 a146 := Tryd.isAgg120
 z146 := Tryd.sizeOf120
 v146 := Tryd.zeroValue120
 g1 := by kernel_rfl
 i3 := by kernel_rfl
 i4 := by kernel_rfl
 i5 := by kernel_rfl
 i9 := by kernel_rfl
 i46 := by kernel_rfl
 i51 := by kernel_rfl
 i146 := by kernel_rfl
 m1 := by kernel_rfl
 s1_3 := fun w h => Go.Proofs.cell_of_shapedOpen_int (zero := #[.int .i64 0]) (t := 3) h (of_decide_eq_true (by kernel_rfl)) (by kernel_rfl) rfl (by kernel_rfl) (by kernel_rfl) Tryd.underlying3 }
open Go.RowKit Go.Lib in
theorem Tryd.strings_Index_shaped (s sub : ByteArray) (w : World) (h : w.ShapedOpen Tryd.prog) (hs : s.size < 4294967281) :
  Calls Tryd.prog 90 #[.string s, .string sub] w fun e w' => e = .returned (.int .i64 (Lib.index s.data.toList sub.data.toList)) ∧ w' = w := Any.strings_Index_shaped Tryd.laysM143 s sub w h hs
def Tryd.laysM144_ren : Go.Shelf.Ren := ⟨fun | 144 => 77 | 143 => 90 | 219 => 98 | 217 => 61 | 225 => 105 | 224 => 104 | 267 => 106 | 266 => 78 | 314 => 108 | n => n, fun | 9 => 9 | 4 => 4 | 3 => 3 | 5 => 5 | 46 => 113 | 146 => 120 | 51 => 119 | n => n, fun | 1 => 0 | n => n⟩
theorem Tryd.laysM144 : Go.Proofs.LaysM.n144 Tryd.prog Tryd.laysM144_ren := {
 mixed := by kernel_rfl
 f143 := Tryd.func90.trans (congrArg some (by kernel_rfl))
 f144 := Tryd.func77.trans (congrArg some (by kernel_rfl))
 f217 := Tryd.func61.trans (congrArg some (by kernel_rfl))
 f219 := Tryd.func98.trans (congrArg some (by kernel_rfl))
 f224 := Tryd.func104.trans (congrArg some (by kernel_rfl))
 f225 := Tryd.func105.trans (congrArg some (by kernel_rfl))
 f266 := Tryd.func78.trans (congrArg some (by kernel_rfl))
 f267 := Tryd.func106.trans (congrArg some (by kernel_rfl))
 f314 := Tryd.func108.trans (congrArg some (by kernel_rfl))
 t3 := Tryd.underlying3
 a3 := Tryd.isAgg3
 z3 := Tryd.sizeOf3
 v3 := Tryd.zeroValue3
 t4 := Tryd.underlying4
 a4 := Tryd.isAgg4
 z4 := Tryd.sizeOf4
 v4 := Tryd.zeroValue4
 t5 := Tryd.underlying5
 a5 := Tryd.isAgg5
 z5 := Tryd.sizeOf5
 v5 := Tryd.zeroValue5
 t9 := Tryd.underlying9
 a9 := Tryd.isAgg9
 z9 := Tryd.sizeOf9
 v9 := Tryd.zeroValue9
 t46 := Tryd.underlying113
 a46 := Tryd.isAgg113
 z46 := Tryd.sizeOf113
 v46 := Tryd.zeroValue113
 t51 := Tryd.underlying119
 a51 := Tryd.isAgg119
 z51 := Tryd.sizeOf119
 v51 := Tryd.zeroValue119
 t146 := Tryd.underlying120
 a146 := Tryd.isAgg120
 z146 := Tryd.sizeOf120
 v146 := Tryd.zeroValue120
 g1 := by kernel_rfl
 i3 := by kernel_rfl
 i4 := by kernel_rfl
 i5 := by kernel_rfl
 i9 := by kernel_rfl
 i46 := by kernel_rfl
 i51 := by kernel_rfl
 i146 := by kernel_rfl
 m1 := by kernel_rfl
 s1_3 := fun w h => Go.Proofs.cell_of_shapedOpen_int (zero := #[.int .i64 0]) (t := 3) h (of_decide_eq_true (by kernel_rfl)) (by kernel_rfl) rfl (by kernel_rfl) (by kernel_rfl) Tryd.underlying3 }
open Go.RowKit Go.Lib in
theorem Tryd.strings_Contains_shaped (s sub : ByteArray) (w : World) (h : w.ShapedOpen Tryd.prog) (hs : s.size < 4294967281) :
  Calls Tryd.prog 77 #[.string s, .string sub] w fun e w' => e = .returned (.bool (Lib.contains s.data.toList sub.data.toList)) ∧ w' = w := Any.strings_Contains_shaped Tryd.laysM144 s sub w h hs
def Tryd.lays197_ren : Go.Shelf.Ren := ⟨fun | 197 => 85 | 260 => 96 | n => n, fun | 9 => 9 | 21 => 21 | 3 => 3 | 4 => 4 | 5 => 5 | 105 => 96 | 119 => 112 | 0 => 0 | 46 => 113 | 139 => 116 | 138 => 115 | n => n, fun | 3 => 1 | 4 => 2 | n => n⟩
theorem Tryd.lays197 : Go.Proofs.Lays.n197 Tryd.prog Tryd.lays197_ren := {
 mixed := by kernel_rfl
 f197 := Tryd.func85.trans (congrArg some (by kernel_rfl))
 f260 := Tryd.func96.trans (congrArg some (by kernel_rfl))
 t0 := Tryd.underlying0
 a0 := Tryd.isAgg0
 z0 := Tryd.sizeOf0
 v0 := Tryd.zeroValue0
 t3 := Tryd.underlying3
 a3 := Tryd.isAgg3
 z3 := Tryd.sizeOf3
 v3 := Tryd.zeroValue3
 t4 := Tryd.underlying4
 a4 := Tryd.isAgg4
 z4 := Tryd.sizeOf4
 v4 := Tryd.zeroValue4
 t5 := Tryd.underlying5
 a5 := Tryd.isAgg5
 z5 := Tryd.sizeOf5
 v5 := Tryd.zeroValue5
 t9 := Tryd.underlying9
 a9 := Tryd.isAgg9
 z9 := Tryd.sizeOf9
 v9 := Tryd.zeroValue9
 t21 := Tryd.underlying21
 a21 := Tryd.isAgg21
 z21 := Tryd.sizeOf21
 v21 := Tryd.zeroValue21
 t46 := Tryd.underlying113
 a46 := Tryd.isAgg113
 z46 := Tryd.sizeOf113
 v46 := Tryd.zeroValue113
 t105 := Tryd.underlying96
 a105 := Tryd.isAgg96
 z105 := Tryd.sizeOf96
 v105 := Tryd.zeroValue96
 t119 := Tryd.underlying112
 a119 := Tryd.isAgg112
 z119 := Tryd.sizeOf112
 t138 := Tryd.underlying115
 a138 := Tryd.isAgg115
 z138 := Tryd.sizeOf115
 v138 := Tryd.zeroValue115
 t139 := Tryd.underlying116
 a139 := Tryd.isAgg116
 z139 := Tryd.sizeOf116
 v139 := Tryd.zeroValue116
 g3 := by kernel_rfl
 g4 := by kernel_rfl }
open Go.RowKit Go.Lib in
/-- unicode/utf8.DecodeRuneInString: "DecodeRuneInString is like DecodeRune but its input is a string.": ("DecodeRune unpacks the first UTF-8 encoding in p and returns the rune and its width in bytes."): WHERE s BEGINS WITH AN ASCII BYTE x: (x, 1). (LAID: no walk: one application.) -/
theorem Tryd.utf8_DecodeRuneInString_ascii (s : ByteArray) (x : UInt8) (w : World) (h0 : s.data.toList[0]? = some x) (hx : x.toNat < 128) :
  Calls Tryd.prog 85 #[.string s] w fun e w' => e = .returned (.tuple #[.int .i32 x.toNat, .int .i64 1]) ∧ w' = w := Any.utf8_DecodeRuneInString_ascii Tryd.lays197 s x w h0 hx
def Tryd.lays152_ren : Go.Shelf.Ren := ⟨fun | 152 => 97 | 137 => 46 | 119 => 103 | 224 => 104 | 225 => 105 | 217 => 61 | 266 => 78 | n => n, fun | 9 => 9 | 21 => 21 | 3 => 3 | 4 => 4 | 5 => 5 | 0 => 0 | 46 => 113 | n => n, fun | n => n⟩
theorem Tryd.lays152 : Go.Proofs.Lays.n152 Tryd.prog Tryd.lays152_ren := {
 mixed := by kernel_rfl
 f119 := Tryd.func103.trans (congrArg some (by kernel_rfl))
 f137 := Tryd.func46.trans (congrArg some (by kernel_rfl))
 f152 := Tryd.func97.trans (congrArg some (by kernel_rfl))
 f217 := Tryd.func61.trans (congrArg some (by kernel_rfl))
 f224 := Tryd.func104.trans (congrArg some (by kernel_rfl))
 f225 := Tryd.func105.trans (congrArg some (by kernel_rfl))
 f266 := Tryd.func78.trans (congrArg some (by kernel_rfl))
 t0 := Tryd.underlying0
 a0 := Tryd.isAgg0
 z0 := Tryd.sizeOf0
 v0 := Tryd.zeroValue0
 t3 := Tryd.underlying3
 a3 := Tryd.isAgg3
 z3 := Tryd.sizeOf3
 v3 := Tryd.zeroValue3
 t4 := Tryd.underlying4
 a4 := Tryd.isAgg4
 z4 := Tryd.sizeOf4
 v4 := Tryd.zeroValue4
 t5 := Tryd.underlying5
 a5 := Tryd.isAgg5
 z5 := Tryd.sizeOf5
 v5 := Tryd.zeroValue5
 t9 := Tryd.underlying9
 a9 := Tryd.isAgg9
 z9 := Tryd.sizeOf9
 v9 := Tryd.zeroValue9
 t21 := Tryd.underlying21
 a21 := Tryd.isAgg21
 z21 := Tryd.sizeOf21
 v21 := Tryd.zeroValue21
 t46 := Tryd.underlying113
 a46 := Tryd.isAgg113
 z46 := Tryd.sizeOf113
 v46 := Tryd.zeroValue113 }
open Go.RowKit Go.Lib in
theorem Tryd.strings_IndexRune_ascii (s : ByteArray) (r : Int) (w : World) (h0 : 0 ≤ r) (h1 : r < 128) :
  Calls Tryd.prog 97 #[.string s, .int .i32 r] w fun e w' => e = .returned (.int .i64 (Lib.indexByte s.data.toList r.toNat.toUInt8)) ∧ w' = w := Any.strings_IndexRune_ascii Tryd.lays152 s r w h0 h1
def Tryd.lays151_ren : Go.Shelf.Ren := ⟨fun | 151 => 86 | 152 => 97 | 137 => 46 | 119 => 103 | 224 => 104 | 225 => 105 | 217 => 61 | 266 => 78 | n => n, fun | 9 => 9 | 21 => 21 | 4 => 4 | 3 => 3 | 5 => 5 | 0 => 0 | 46 => 113 | n => n, fun | n => n⟩
theorem Tryd.lays151 : Go.Proofs.Lays.n151 Tryd.prog Tryd.lays151_ren := {
 mixed := by kernel_rfl
 f119 := Tryd.func103.trans (congrArg some (by kernel_rfl))
 f137 := Tryd.func46.trans (congrArg some (by kernel_rfl))
 f151 := Tryd.func86.trans (congrArg some (by kernel_rfl))
 f152 := Tryd.func97.trans (congrArg some (by kernel_rfl))
 f217 := Tryd.func61.trans (congrArg some (by kernel_rfl))
 f224 := Tryd.func104.trans (congrArg some (by kernel_rfl))
 f225 := Tryd.func105.trans (congrArg some (by kernel_rfl))
 f266 := Tryd.func78.trans (congrArg some (by kernel_rfl))
 t0 := Tryd.underlying0
 a0 := Tryd.isAgg0
 z0 := Tryd.sizeOf0
 v0 := Tryd.zeroValue0
 t3 := Tryd.underlying3
 a3 := Tryd.isAgg3
 z3 := Tryd.sizeOf3
 v3 := Tryd.zeroValue3
 t4 := Tryd.underlying4
 a4 := Tryd.isAgg4
 z4 := Tryd.sizeOf4
 v4 := Tryd.zeroValue4
 t5 := Tryd.underlying5
 a5 := Tryd.isAgg5
 z5 := Tryd.sizeOf5
 v5 := Tryd.zeroValue5
 t9 := Tryd.underlying9
 a9 := Tryd.isAgg9
 z9 := Tryd.sizeOf9
 v9 := Tryd.zeroValue9
 t21 := Tryd.underlying21
 a21 := Tryd.isAgg21
 z21 := Tryd.sizeOf21
 v21 := Tryd.zeroValue21
 t46 := Tryd.underlying113
 a46 := Tryd.isAgg113
 z46 := Tryd.sizeOf113
 v46 := Tryd.zeroValue113 }
open Go.RowKit Go.Lib in
theorem Tryd.strings_ContainsRune_ascii (s : ByteArray) (r : Int) (w : World) (h0 : 0 ≤ r) (h1 : r < 128) :
  Calls Tryd.prog 86 #[.string s, .int .i32 r] w fun e w' => e = .returned (.bool (decide (0 ≤ Lib.indexByte s.data.toList r.toNat.toUInt8))) ∧ w' = w := Any.strings_ContainsRune_ascii Tryd.lays151 s r w h0 h1
def Tryd.lays227_ren : Go.Shelf.Ren := ⟨fun | 227 => 70 | n => n, fun | 9 => 9 | 116 => 85 | 4 => 4 | 0 => 0 | 3 => 3 | 5 => 5 | n => n, fun | n => n⟩
theorem Tryd.lays227 : Go.Proofs.Lays.n227 Tryd.prog Tryd.lays227_ren := {
 mixed := by kernel_rfl
 f227 := Tryd.func70.trans (congrArg some (by kernel_rfl))
 t0 := Tryd.underlying0
 a0 := Tryd.isAgg0
 z0 := Tryd.sizeOf0
 v0 := Tryd.zeroValue0
 t3 := Tryd.underlying3
 a3 := Tryd.isAgg3
 z3 := Tryd.sizeOf3
 v3 := Tryd.zeroValue3
 t4 := Tryd.underlying4
 a4 := Tryd.isAgg4
 z4 := Tryd.sizeOf4
 v4 := Tryd.zeroValue4
 t5 := Tryd.underlying5
 a5 := Tryd.isAgg5
 z5 := Tryd.sizeOf5
 v5 := Tryd.zeroValue5
 t9 := Tryd.underlying9
 a9 := Tryd.isAgg9
 z9 := Tryd.sizeOf9
 v9 := Tryd.zeroValue9
 t116 := Tryd.underlying85
 a116 := Tryd.isAgg85
 z116 := Tryd.sizeOf85 }
open Go.RowKit Go.Lib in
theorem Tryd.strings_makeASCIISet (hv116 : ∀ w, (zeroValue 85).run Tryd.prog w = .ok (.agg (Array.replicate 256 (.bool false))) w) (chars : ByteArray) (w : World) (hs : chars.size < 4294967281) (hascii : ∀ (j : Nat) b, chars.data.toList[j]? = some b → b.toNat < 128) :
  Calls Tryd.prog 70 #[.string chars] w fun e w' => e = .returned (.tuple #[.agg (Lib.setCells chars.data.toList), .bool true]) ∧ w' = w.alloc (.cells (Lib.setCells chars.data.toList) 85) := Any.strings_makeASCIISet Tryd.lays227 hv116 (by kernel_rfl) chars w hs hascii
def Tryd.lays228_ren : Go.Shelf.Ren := ⟨fun | 228 => 84 | n => n, fun | 124 => 89 | 5 => 5 | 4 => 4 | 0 => 0 | 116 => 85 | n => n, fun | n => n⟩
theorem Tryd.lays228 : Go.Proofs.Lays.n228 Tryd.prog Tryd.lays228_ren := {
 mixed := by kernel_rfl
 f228 := Tryd.func84.trans (congrArg some (by kernel_rfl))
 t0 := Tryd.underlying0
 a0 := Tryd.isAgg0
 z0 := Tryd.sizeOf0
 v0 := Tryd.zeroValue0
 t4 := Tryd.underlying4
 a4 := Tryd.isAgg4
 z4 := Tryd.sizeOf4
 v4 := Tryd.zeroValue4
 t5 := Tryd.underlying5
 a5 := Tryd.isAgg5
 z5 := Tryd.sizeOf5
 v5 := Tryd.zeroValue5
 t116 := Tryd.underlying85
 a116 := Tryd.isAgg85
 z116 := Tryd.sizeOf85
 t124 := Tryd.underlying89
 a124 := Tryd.isAgg89
 z124 := Tryd.sizeOf89
 v124 := Tryd.zeroValue89 }
open Go.RowKit Go.Lib in
/-- '(as *asciiSet) contains(c)': 'as[c]': the set lies at block b, whole. (LAID: no walk: one application.) -/
theorem Tryd.asciiSet_contains (b : Nat) (x : UInt8) (v : Bool) (w : World) (hc : w.cell? ⟨b, x.toNat, none⟩ = some (.bool v)) :
  Calls Tryd.prog 84 #[.pointer (some ⟨b, 0, none⟩), .int .u8 x.toNat] w fun e w' => e = .returned (.bool v) ∧ w' = w := Any.asciiSet_contains Tryd.lays228 b x v w hc
def Tryd.lays260_ren : Go.Shelf.Ren := ⟨fun | 260 => 96 | n => n, fun | 9 => 9 | 21 => 21 | 3 => 3 | 4 => 4 | 5 => 5 | 119 => 112 | 0 => 0 | 46 => 113 | 139 => 116 | 138 => 115 | n => n, fun | 3 => 1 | 4 => 2 | n => n⟩
theorem Tryd.lays260 : Go.Proofs.Lays.n260 Tryd.prog Tryd.lays260_ren := {
 mixed := by kernel_rfl
 f260 := Tryd.func96.trans (congrArg some (by kernel_rfl))
 t0 := Tryd.underlying0
 a0 := Tryd.isAgg0
 z0 := Tryd.sizeOf0
 v0 := Tryd.zeroValue0
 t3 := Tryd.underlying3
 a3 := Tryd.isAgg3
 z3 := Tryd.sizeOf3
 v3 := Tryd.zeroValue3
 t4 := Tryd.underlying4
 a4 := Tryd.isAgg4
 z4 := Tryd.sizeOf4
 v4 := Tryd.zeroValue4
 t5 := Tryd.underlying5
 a5 := Tryd.isAgg5
 z5 := Tryd.sizeOf5
 v5 := Tryd.zeroValue5
 t9 := Tryd.underlying9
 a9 := Tryd.isAgg9
 z9 := Tryd.sizeOf9
 v9 := Tryd.zeroValue9
 t21 := Tryd.underlying21
 a21 := Tryd.isAgg21
 z21 := Tryd.sizeOf21
 v21 := Tryd.zeroValue21
 t46 := Tryd.underlying113
 a46 := Tryd.isAgg113
 z46 := Tryd.sizeOf113
 v46 := Tryd.zeroValue113
 t119 := Tryd.underlying112
 a119 := Tryd.isAgg112
 z119 := Tryd.sizeOf112
 t138 := Tryd.underlying115
 a138 := Tryd.isAgg115
 z138 := Tryd.sizeOf115
 v138 := Tryd.zeroValue115
 t139 := Tryd.underlying116
 a139 := Tryd.isAgg116
 z139 := Tryd.sizeOf116
 v139 := Tryd.zeroValue116
 g3 := by kernel_rfl
 g4 := by kernel_rfl }
open Go.RowKit Go.Lib in
theorem Tryd.utf8_decodeRuneInStringSlow (s : ByteArray) (w : World) (hT : Lib.Utf8Tabs 1 2 w) :
  Calls Tryd.prog 96 #[.string s] w fun e w' => e = .returned (.tuple #[.int .i32 (Lib.decodeGo s).1, .int .i64 (Lib.decodeGo s).2]) ∧ Below w.heap.size w w' := Any.utf8_decodeRuneInStringSlow Tryd.lays260 s w hT
open Go.RowKit Go.Lib in
/-- **unicode/utf8.DecodeRuneInString AT EVERY STRING.** (LAID: no walk: one application.) -/
theorem Tryd.utf8_DecodeRuneInString (s : ByteArray) (w : World) (hT : Lib.Utf8Tabs 1 2 w) :
  Calls Tryd.prog 85 #[.string s] w fun e w' => e = .returned (.tuple #[.int .i32 (Lib.decodeGo s).1, .int .i64 (Lib.decodeGo s).2]) ∧ Below w.heap.size w w' := Any.utf8_DecodeRuneInString Tryd.lays197 s w hT
end Go.Proofs
set_option linter.unusedVariables false
set_option linter.unusedSimpArgs false
namespace Go.Proofs.YtdohdncgjendkaaDoor
open Abs Go.RowKit
def orcContains : List AV → ASt → Option (AV × ASt)
 | [.str s, .str sub], st => if s.length < 4294967281 then some (.bool (Lib.contains s sub), st) else none
 | _, _ => none
def orcIndexByte : List AV → ASt → Option (AV × ASt)
 | [.str s, .int .u8 c], st => some (.int .i64 (Lib.indexByte s c.toNat.toUInt8), st)
 | _, _ => none
def orc (f : Nat) : Option (List AV → ASt → Option (AV × ASt)) :=
 if f = 77 then some orcContains else if f = 46 then some orcIndexByte else none
noncomputable def X : Ctx := ⟨Tryd.prog, code, orc⟩
theorem VRs.two {G : Gh} {x y : AV} {c : Array Value} (h : VRs G [x, y] c.toList) : ∃ a b, c = #[a, b] ∧ VR G x a ∧ VR G y b := by
 obtain ⟨a, c1, h1, h2, h3⟩ := h.cons_inv
 obtain ⟨b, c2, h4, h5, h6⟩ := h3.cons_inv
 have := h6.nil_inv
 subst this; subst h4
 exact ⟨a, b, by rw [← Array.toList_inj, h1], h2, h5⟩
theorem VR.str_inv' {G : Gh} {s : List UInt8} {c : Value} (h : VR G (.str s) c) : c = .string ⟨s.toArray⟩ := by cases h; rfl
theorem VR.int_inv' {G : Gh} {k : IntKind} {n : Int} {c : Value} (h : VR G (.int k n) c) : c = .int k n := by cases h; rfl
/-- A call that leaves the world alone. -/
theorem CallR.pure {P : Program} {B : Nat} {w0 : World} {f : Nat} {args : List AV} {s : ASt} {v : AV}
  (h : ∀ (G : Gh) (w : World) (cargs : Array Value), Sim B w0 G s w → Old B w0 G → VRs G args cargs.toList → ∃ cv, VR G v cv ∧ Calls P f cargs w fun e w' => e = .returned cv ∧ w' = w) : CallR P B w0 f args s v s := by
 intro G w cargs hs ho ha
 obtain ⟨cv, h1, h2⟩ := h G w cargs hs ho ha
 refine h2.mono ?_
 rintro e w' ⟨rfl, rfl⟩
 exact ⟨cv, G, rfl, h1, .refl G, hs, .refl G _ _⟩
theorem orcContains_inv {args : List AV} {st s' : ASt} {v : AV} (h : orcContains args st = some (v, s')) : ∃ a b, args = [.str a, .str b] ∧ a.length < 4294967281 ∧ v = .bool (Lib.contains a b) ∧ s' = st := by
 unfold orcContains at h
 split at h
 ·split at h
  ·rename_i hl
   injection h with h; injection h with h1 h2
   exact ⟨_, _, rfl, hl, h1.symm, h2.symm⟩
  ·cases h
 ·cases h
theorem orcIndexByte_inv {args : List AV} {st s' : ASt} {v : AV} (h : orcIndexByte args st = some (v, s')) : ∃ a c, args = [.str a, .int .u8 c] ∧ v = .int .i64 (Lib.indexByte a c.toNat.toUInt8) ∧ s' = st := by
 unfold orcIndexByte at h
 split at h
 ·injection h with h; injection h with h1 h2
  exact ⟨_, _, rfl, h1.symm, h2.symm⟩
 ·cases h
theorem orc_ok {w0 : World} (hsh : w0.ShapedOpen Tryd.prog) : OrcOK X w0.heap.size w0 := by
 obtain ⟨m, hm⟩ := Tryd.laysM144.s1_3 w0 hsh
 have hm : w0.cell? ⟨0, 0, none⟩ = some (.int .i64 m) := hm
 have h0 : 0 < w0.heap.size := World.block_lt_of_cell? w0 _ hm
 intro f g hg args s v s' hr
 have hg : orc f = some g := hg
 unfold orc at hg
 split at hg
 ·rename_i hf; subst hf
  injection hg with hg; subst hg
  obtain ⟨a, b, rfl, hl, rfl, rfl⟩ := orcContains_inv hr
  refine ⟨⟨Tryd.f77, by kernel_rfl, by kernel_rfl, by kernel_rfl⟩, rfl, Nat.le_refl _, CallR.pure fun G w cargs hs ho ha => ?_⟩
  obtain ⟨x, y, rfl, h1, h2⟩ := VRs.two ha
  rw [VR.str_inv' h1, VR.str_inv' h2]
  refine ⟨_, .bool _, ?_⟩
  have := Tryd.strings_Contains ⟨a.toArray⟩ ⟨b.toArray⟩ m w (by simpa [ByteArray.size] using hl) (hs.comm _ _ (ho _ _ h0 hm))
  show Calls Tryd.prog 77 _ _ _
  simpa using this
 ·split at hg
  ·rename_i hf; subst hf
   injection hg with hg; subst hg
   obtain ⟨a, c, rfl, rfl, rfl⟩ := orcIndexByte_inv hr
   refine ⟨⟨Tryd.f46, by kernel_rfl, by kernel_rfl, by kernel_rfl⟩, rfl, Nat.le_refl _, CallR.pure fun G w cargs hs ho ha => ?_⟩
   obtain ⟨x, y, rfl, h1, h2⟩ := VRs.two ha
   rw [VR.str_inv' h1, VR.int_inv' h2]
   refine ⟨_, .int _ _, ?_⟩
   have := Tryd.strings_IndexByte ⟨a.toArray⟩ c w
   show Calls Tryd.prog 46 _ _ _
   simpa using this
  ·cases hg
theorem contains_call (s sub : List UInt8) (hl : s.length < 4294967281) (st : ASt) : Does X 77 [.str s, .str sub] st fun v s' => v = .bool (Lib.contains s sub) ∧ s' = st := by
 refine call_orc (g := orcContains) rfl ?_
 simp [orcContains, hl, optK]
theorem indexByte_call (s : List UInt8) (c : UInt8) (st : ASt) : Does X 46 [.str s, .int .u8 c.toNat] st fun v s' => v = .int .i64 (Lib.indexByte s c) ∧ s' = st := by
 refine call_orc (g := orcIndexByte) rfl ?_
 simp [orcIndexByte, optK]
end Go.Proofs.YtdohdncgjendkaaDoor
set_option maxRecDepth 100000
namespace Go.Proofs.YtdohdncgjendkaaDoor
open Abs Go.RowKit Go.WideShapes Go.ChangeShapes Go.ChangeAt
open Go.ChangeMaps (open_string shut_string)
theorem own_ : ownKnob Tryd.prog.godebug = none := by kernel_rfl
theorem mixed_ : Tryd.prog.follows .mixedOrders = true := by kernel_rfl
theorem codeOK : CodeOK X := fun f af h => code_ok h
abbrev laidL : List (String × DataW Unit) := [("unicode/utf8.acceptRanges", Rows.laid_unicode_utf8_acceptRanges), ("unicode/utf8.first", Rows.laid_unicode_utf8_first)]
theorem laid_met (os : Os) (args : Array Value) : laidMetH Tryd.prog laidL ((World.laidAll Tryd.prog os laidL).forCall (fun _ _ => 0) ⟨#[], args, []⟩).memory := by
 rw [MakeChecks.laidMetH_plain _ _ _ (by kernel_rfl)]; exact laidMet_laidAll _ (by kernel_rfl) (by kernel_rfl)
/-- A law that answers true, from a world that the form speaks of. -/
theorem law_true {W : World} (hsh : W.ShapedOpen Tryd.prog) {f : Nat} {args : List AV} {cargs : Array Value} (ha : VRs (G0 W) args cargs.toList)
  (h : Does X f args s0 fun v _ => v = .bool true) : Calls Tryd.prog f cargs W fun e W' => e = .returned (.bool true) ∧ Below W.heap.size W W' :=
 law_calls (X := X) mixed_ codeOK (orc_ok hsh) ha h
theorem i64_range {n : Int} (h : (Lit.int .i64 n).wf = true) : -9223372036854775808 ≤ n ∧ n ≤ 9223372036854775807 := by
 simp only [Lit.wf, Bool.and_eq_true, decide_eq_true_eq] at h
 exact h
end Go.Proofs.YtdohdncgjendkaaDoor
