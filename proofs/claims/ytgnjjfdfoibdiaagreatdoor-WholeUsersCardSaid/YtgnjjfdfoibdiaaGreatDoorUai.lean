/- A part of the proof of WholeUsers. -/
import Derived.Deep.RegionHeld3
import Derived.Shelf.LaysM
import Derived.Shelf.Slices.Cells
import Derived.Shelf.Slices.Clone
import Derived.Shelf.Slices.CompactS
import Derived.Shelf.Slices.Delete
import Derived.Shelf.Slices.Empties
import Derived.Shelf.Slices.ReverseS
import Derived.Shelf.Slices.SearchI
import Derived.Shelf.Slices.Turned
import Derived.Shelf.SlicesE.Clone
import Derived.Shelf.SlicesE.Compact
import Derived.Shelf.SlicesE.IndexFunc
import Derived.Shelf.Small.Bits
import Derived.Shelf.Small.Wraps
import Derived.Shelf.SortM.Plain
import Derived.Shelf.SortM.SortNone
import Derived.Shelf.Strconv.Atoi
import Derived.Shelf.Strconv.AtoiErrFast
import Derived.Shelf.Strconv.Itoa0
import Derived.Shelf.Strconv.Itoa1
import Derived.Shelf.Strconv.Itoa2
import Derived.Shelf.Strconv.Itoa3
import Derived.Shelf.Strings.Builder1
import Derived.Shelf.Strings.Builder2
import Derived.Shelf.Strings.BuilderF
import Derived.Shelf.Strings.Count
import Derived.Shelf.Strings.Cut
import Derived.Shelf.Strings.Explode
import Derived.Shelf.Strings.OnBuilder
import Derived.Shelf.Strings.Prefix
import Derived.Shelf.Strings.RuneCount
import Derived.Shelf.Strings.Search1
import Derived.Shelf.Strings.Search2
import Derived.Shelf.Strings.Search3
import Derived.Shelf.Strings.Shaped
import Derived.Shelf.Strings.Split
import Derived.Shelf.Strings.SplitShaped
import Derived.Shelf.Unicode.Decode
import Derived.Shelf.Unicode.DecodeAny
import Derived.Shelf.Unicode.DecodeSlow
import Derived.Shelf.Utf8.RuneCount
import Derived.Test.YtgnjjfdfoibdiaaGreatDoorProg
import Derived.Test.YtgnjjfdfoibdiaaGreatDoorUab
set_option linter.all false
namespace Go.Proofs
open Go.Shelf
def zGx : Go.Shelf.Ren := ⟨fun | 156 => 315 | 165 => 333 | 166 => 334 | 169 => 335 | 240 => 346 | 241 => 347 | 276 => 354 | 277 => 355 | n => n, fun | 31 => 33 | 9 => 9 | 3 => 3 | 4 => 4 | 0 => 0 | 20 => 20 | 72 => 412 | 76 => 370 | 70 => 410 | 37 => 23 | 75 => 369 | 127 => 432 | 164 => 439 | 5 => 5 | 80 => 328 | n => n, fun | n => n⟩
theorem zLf : Go.Proofs.Lays.n156 Tryz.prog zGx := by constructor <;> first | kernel_rfl | (intro w; kernel_rfl)
theorem zDt : Builder.Extra Tryz.prog zGx := {
 sizeBuilder := by kernel_rfl
 liesBuilder := by kernel_rfl
 t5 := Tryz.underlying5
 a5 := Tryz.isAgg5
 z5 := Tryz.sizeOf5
 v5 := Tryz.zeroValue5
 infoByte := by kernel_rfl
 cellsByte := by kernel_rfl
 sizeByte := by kernel_rfl
 neB5 := by decide }
open Go.RowKit in
theorem Tryz.strings_Join_none (a : Option Addr) (c : Nat) (sep : ByteArray) (w : World) :
  Calls Tryz.prog 315 #[.slice a 0 c, .string sep] w fun e w' => e = .returned (.string ⟨#[]⟩) ∧ w' = w := Any.strings_Join_none zLf zDt a c sep w
open Go.RowKit in
theorem Tryz.strings_Join (bk o c : Nat) (xs : List ByteArray) (sep : ByteArray) (w : World) (hcells : ∀ (j : Nat) x, xs[j]? = some x → w.cell? ⟨bk, o + j, none⟩ = some (.string x)) (hbk : bk < w.heap.size) (hN : xs.length ≤ 140737488355328) (hcap : xs.length ≤ c) (hlen : (Lib.join (xs.map (·.data.toList)) sep.data.toList).length ≤ 140737488355328) :
  Calls Tryz.prog 315 #[.slice (some ⟨bk, o, none⟩) xs.length c, .string sep] w fun e w' => e = .returned (.string ⟨(Lib.join (xs.map (·.data.toList)) sep.data.toList).toArray⟩) ∧ Below w.heap.size w w' := Any.strings_Join zLf zDt bk o c xs sep w hcells hbk hN hcap hlen
def zLy : Go.Shelf.Ren := ⟨fun | 122 => 229 | 215 => 281 | n => n, fun | 3 => 3 | 4 => 4 | n => n, fun | n => n⟩
theorem Tryz.lays122 : Go.Proofs.Lays.n122 Tryz.prog zLy := by constructor <;> first | kernel_rfl | (intro w; kernel_rfl)
open Go.RowKit in
theorem Tryz.cmp_Compare_int (x y : Int) (w : World) :
  Calls Tryz.prog 229 #[.int .i64 x, .int .i64 y] w fun e w' => e = .returned (.int .i64 (Lib.compareInt x y)) ∧ w' = w := Any.cmp_Compare_int Tryz.lays122 x y w
def zLu : Go.Shelf.Ren := ⟨fun | 172 => 279 | 244 => 312 | 245 => 313 | 247 => 327 | 279 => 328 | 280 => 329 | 281 => 330 | 282 => 331 | 287 => 339 | 316 => 340 | 171 => 280 | 205 => 341 | 321 => 348 | 322 => 349 | 243 => 314 | 246 => 332 | 283 => 342 | 284 => 343 | 285 => 344 | 286 => 345 | 129 => 209 | 317 => 350 | 318 => 351 | 319 => 352 | 320 => 353 | 337 => 356 | 338 => 357 | n => n, fun | 9 => 9 | 3 => 3 | 75 => 369 | 76 => 370 | 4 => 4 | 5 => 5 | 167 => 403 | 37 => 23 | 0 => 0 | 85 => 404 | 2 => 2 | 168 => 406 | 53 => 147 | 175 => 422 | 46 => 69 | 210 => 426 | 127 => 432 | 145 => 436 | 143 => 434 | 21 => 21 | 171 => 428 | 173 => 430 | 212 => 437 | 51 => 27 | 20 => 20 | 213 => 438 | 232 => 441 | 233 => 287 | 80 => 328 | n => n, fun | 15 => 3 | 16 => 4 | 17 => 5 | 18 => 6 | 19 => 7 | n => n⟩
theorem Tryz.lays172 : Go.Proofs.Lays.n172 Tryz.prog zLu := by constructor <;> first | kernel_rfl | (intro w; kernel_rfl)
open Go.RowKit in
theorem Tryz.strconv_Atoi (s : ByteArray) (n : Int) (hl : s.size ≤ 18) (h : Lib.atoi s.data.toList = some n) (w : World) :
  Calls Tryz.prog 279 #[.string s] w fun e w' => e = .returned (.tuple #[.int .i64 n, .nilIface]) ∧ ∃ t, w' = Lib.bytesWorld w 5 t := Any.strconv_Atoi Tryz.lays172 s n hl h w
def zLv : Go.Shelf.Ren := ⟨fun | 171 => 280 | 243 => 314 | 246 => 332 | 283 => 342 | 284 => 343 | 285 => 344 | 286 => 345 | 129 => 209 | 317 => 350 | 318 => 351 | 319 => 352 | 320 => 353 | 337 => 356 | 338 => 357 | n => n, fun | 3 => 3 | 9 => 9 | 2 => 2 | 4 => 4 | 171 => 428 | 0 => 0 | 53 => 147 | 37 => 23 | 5 => 5 | 173 => 430 | 212 => 437 | 51 => 27 | 20 => 20 | 213 => 438 | 46 => 69 | 232 => 441 | 233 => 287 | n => n, fun | 17 => 5 | 18 => 6 | 19 => 7 | n => n⟩
theorem Tryz.lays171 : Go.Proofs.Lays.n171 Tryz.prog zLv := by constructor <;> first | kernel_rfl | (intro w; kernel_rfl)
open Go.RowKit Go.Sort Go.Lib in
theorem Tryz.strconv_Itoa_small (i : Nat) (hi : i < 100) (w : World) :
  Calls Tryz.prog 280 #[.int .i64 i] w fun e w' => e = .returned (.string ⟨(Lib.decDigits i).toArray⟩) ∧ w' = w := Any.strconv_Itoa_small Tryz.lays171 i hi w
def zLx : Go.Shelf.Ren := ⟨fun | 145 => 225 | 220 => 278 | 219 => 299 | 217 => 320 | 225 => 321 | 224 => 322 | 267 => 323 | 266 => 336 | 314 => 337 | n => n, fun | 9 => 9 | 4 => 4 | 59 => 329 | 3 => 3 | 5 => 5 | 46 => 69 | 146 => 419 | 51 => 27 | n => n, fun | 1 => 0 | n => n⟩
theorem Tryz.lays145 : Go.Proofs.Lays.n145 Tryz.prog zLx := by constructor <;> first | kernel_rfl | (intro w; kernel_rfl)
open Go.RowKit Go.Lib in
theorem Tryz.strings_Cut (s sep : ByteArray) (m : Int) (w : World) (hs : s.size < 4294967281) (hm : w.cell? ⟨0, 0, none⟩ = some (.int .i64 m)) :
  Calls Tryz.prog 225 #[.string s, .string sep] w fun e w' => e = .returned (.tuple #[.string ⟨(Lib.cut s.data.toList sep.data.toList).1.toArray⟩, .string ⟨(Lib.cut s.data.toList sep.data.toList).2.1.toArray⟩, .bool (Lib.cut s.data.toList sep.data.toList).2.2]) ∧ ∃ n, w' = w.drewN n := Any.strings_Cut Tryz.lays145 s sep m w hs hm
def zNs : Go.Shelf.Ren := ⟨fun | 99 => 114 | 206 => 186 | n => n, fun | 9 => 9 | 4 => 4 | 3 => 3 | n => n, fun | n => n⟩
theorem Tryz.lays99 : Go.Proofs.Lays.n99 Tryz.prog zNs := by constructor <;> first | kernel_rfl | (intro w; kernel_rfl)
open Go.RowKit Go.Lib in
theorem Tryz.strings_HasPrefix (s p : ByteArray) (w : World) :
  Calls Tryz.prog 114 #[.string s, .string p] w fun e w' => e = .returned (.bool (Lib.hasPrefix s.data.toList p.data.toList)) ∧ w' = w := Any.strings_HasPrefix Tryz.lays99 s p w
def zLw : Go.Shelf.Ren := ⟨fun | 146 => 115 | 221 => 187 | 268 => 256 | 138 => 257 | 143 => 258 | 195 => 296 | 197 => 297 | 218 => 298 | 219 => 299 | 260 => 319 | 217 => 320 | 225 => 321 | 224 => 322 | 267 => 323 | 266 => 336 | 314 => 337 | n => n, fun | 9 => 9 | 31 => 33 | 3 => 3 | 4 => 4 | 0 => 0 | 105 => 384 | 21 => 21 | 5 => 5 | 46 => 69 | 119 => 415 | 139 => 418 | 138 => 417 | 146 => 419 | 51 => 27 | n => n, fun | 1 => 0 | 3 => 1 | 4 => 2 | n => n⟩
theorem Tryz.lays146 : Go.Proofs.Lays.n146 Tryz.prog zLw := by constructor <;> first | kernel_rfl | (intro w; kernel_rfl)
open Go.RowKit Go.Lib in
theorem Tryz.strings_Split (s sep : ByteArray) (m : Int) (w : World) (hs : s.size < 4294967281) (hm : w.cell? ⟨0, 0, none⟩ = some (.int .i64 m)) (h1 : 1 ≤ sep.size) :
  Calls Tryz.prog 115 #[.string s, .string sep] w fun e w' =>
   e = .returned (.slice (some ⟨w.heap.size, 0, none⟩) (Lib.countB s sep + 1) (Lib.countB s sep + 1)) ∧ w' = w.alloc (.cells ((Lib.splitB sep 0 (Lib.countB s sep) s).map Value.string).toArray 9) := Any.strings_Split Tryz.lays146 (by kernel_rfl) s sep m w hs hm h1
def zLz : Go.Shelf.Ren := ⟨fun | 110 => 151 | 109 => 228 | n => n, fun | 31 => 33 | 9 => 9 | 4 => 4 | 3 => 3 | 0 => 0 | n => n, fun | n => n⟩
theorem zLg : Go.Proofs.Lays.n110 Tryz.prog zLz := by constructor <;> first | kernel_rfl | (intro w; kernel_rfl)
open Go.Lib in
theorem Tryz.slices_Contains_string (b off n c : Nat) (zs : List ByteArray) (x : ByteArray) (w : World) (hz : n ≤ zs.length) (hbig : n ≤ 9223372036854775807) (hc : ∀ j, j < zs.length → w.cell? ⟨b, off + j, none⟩ = some (.string (zs.getD j ByteArray.empty))) :
  Calls Tryz.prog 151 #[.slice (some ⟨b, off, none⟩) n c, .string x] w fun e w' => e = .returned (.bool (Lib.containsS (zs.take n) x)) ∧ w' = w := Any.slices_Contains_string zLg b off n c zs x w hz hbig hc
open Go.Lib in
theorem Tryz.slices_Contains_string_empty (a : Option Addr) (c : Nat) (x : ByteArray) (w : World) :
  Calls Tryz.prog 151 #[.slice a 0 c, .string x] w fun e w' => e = .returned (.bool false) ∧ w' = w := Any.slices_Contains_string_empty zLg a c x w
def zJt : Go.Shelf.Ren := ⟨fun | 17 => 253 | n => n, fun | 24 => 33 | 9 => 9 | 3 => 3 | 4 => 4 | 0 => 0 | n => n, fun | n => n⟩
theorem zOi : Go.Proofs.Lays2.n17 Tryz.prog zJt := by constructor <;> first | kernel_rfl | (intro w; kernel_rfl)
open Go.RowKit Go.Lib Go.Sort in
theorem Tryz.slices_Reverse_string_empty (a : Option Addr) (cap : Nat) (w : World) :
  Calls Tryz.prog 253 #[.slice a 0 cap] w fun e w' => e = .returned (.tuple #[]) ∧ w' = w := Any.slices_Reverse_string_empty zOi a cap w
def zJu : Go.Shelf.Ren := ⟨fun | 16 => 96 | n => n, fun | 24 => 33 | 9 => 9 | 4 => 4 | n => n, fun | n => n⟩
theorem zFj : Go.Proofs.Lays2.n16 Tryz.prog zJu := by constructor <;> first | kernel_rfl | (intro w; kernel_rfl)
open Go.RowKit Go.Lib in
theorem Tryz.slices_Clone_string (b off n c : Nat) (zs : List ByteArray) (w : World) (hz : n ≤ zs.length) (hbig : n * 16 ≤ 140737488355328) (hc : ∀ j, j < zs.length → w.cell? ⟨b, off + j, none⟩ = some (.string (zs.getD j ByteArray.empty))) :
  Calls Tryz.prog 96 #[.slice (some ⟨b, off, none⟩) n c] w fun e w' => ∃ v', e = .returned v' ∧ w'.ownsRow w.heap.size 9 1 v' n ((zs.take n).map (Value.string)) ∧ v' ≠ .slice none 0 0 ∧ Below w.heap.size w w' := Any.slices_Clone_string zFj b off n c zs w hz hbig hc
open Go.RowKit Go.Lib in
theorem Tryz.slices_Clone_string_nil (n c : Nat) (w : World) :
  Calls Tryz.prog 96 #[.slice none n c] w fun e w' => e = .returned (.slice none 0 0) ∧ w' = w := Any.slices_Clone_string_nil zFj n c w
open Go.RowKit Go.Lib in
theorem Tryz.slices_Clone_string_zero (a : Addr) (c : Nat) (w : World) :
  Calls Tryz.prog 96 #[.slice (some a) 0 c] w fun e w' => ∃ v', e = .returned v' ∧ w'.ownsRow w.heap.size 9 1 v' 0 [] ∧ v' ≠ .slice none 0 0 ∧ Below w.heap.size w w' := Any.slices_Clone_string_zero zFj a c w
def zLt : Go.Shelf.Ren := ⟨fun | 194 => 237 | n => n, fun | 31 => 33 | 9 => 9 | 3 => 3 | 4 => 4 | 0 => 0 | n => n, fun | n => n⟩
theorem zLe : Go.Proofs.Lays.n194 Tryz.prog zLt := by constructor <;> first | kernel_rfl | (intro w; kernel_rfl)
open Go.RowKit Go.Lib Go.Sort in
theorem Tryz.slices_Compact_string (blk off cap : Nat) (zs : List (List UInt8)) (w : World) (hH : Holds encStr w blk off zs.toArray) (hsz : zs.length ≤ 9223372036854775807) (hcap : zs.length ≤ cap) :
  Calls Tryz.prog 237 #[.slice (some ⟨blk, off, none⟩) zs.length cap] w fun e w' => e = .returned (.slice (some ⟨blk, off, none⟩) (Lib.compact zs).length cap) ∧ ∃ q, w' = putRow encStr (Sort.ahead w q) blk off (Lib.compact zs ++ List.replicate (zs.length - (Lib.compact zs).length) []).toArray := Any.slices_Compact_string zLe blk off cap zs w hH hsz hcap
open Go.RowKit Go.Lib Go.Sort in
theorem Tryz.slices_Compact_string_empty (a : Option Addr) (cap : Nat) (w : World) :
  Calls Tryz.prog 237 #[.slice a 0 cap] w fun e w' => e = .returned (.slice a 0 cap) ∧ w' = w := Any.slices_Compact_string_empty zLe a cap w
def zG4 : Go.Shelf.Ren := ⟨fun | 6 => 146 | n => n, fun | 22 => 33 | 23 => 9 | 25 => 144 | 3 => 3 | 0 => 0 | 4 => 4 | n => n, fun | n => n⟩
theorem zJs : Go.Proofs.SlLaysH.n6 Tryz.prog zG4 := by constructor <;> first | kernel_rfl | (intro w; kernel_rfl) | exact ⟨Tryz.f146.name, by decide, Tryz.func146.trans (congrArg some (by kernel_rfl))⟩
open Go.RowKit Go.Lib in
theorem zBr {α : Type} [Inhabited α] (a : Option Addr) (c : Nat) (fv : Value) (w : World) :
  Calls Tryz.prog 146 #[.slice a 0 c, fv] w fun e w' => e = .returned (.int .i64 (-1)) ∧ w' = w := AnyE.slices_IndexFunc_empty zJs a c fv w
def zHq : Go.Shelf.Ren := ⟨fun | 8 => 68 | 6 => 146 | n => n, fun | 22 => 33 | 23 => 9 | 25 => 144 | 4 => 4 | 3 => 3 | 0 => 0 | n => n, fun | n => n⟩
theorem zKq : Go.Proofs.SlLaysH.n8 Tryz.prog zHq := {
 mixed := by kernel_rfl
 f6 := ⟨Tryz.f146.name, by decide, Tryz.func146.trans (congrArg some (by kernel_rfl))⟩
 f8 := ⟨Tryz.f68.name, by decide, Tryz.func68.trans (congrArg some (by kernel_rfl))⟩
 t0 := Tryz.underlying0
 a0 := Tryz.isAgg0
 z0 := Tryz.sizeOf0
 v0 := Tryz.zeroValue0
 t3 := Tryz.underlying3
 a3 := Tryz.isAgg3
 z3 := Tryz.sizeOf3
 v3 := Tryz.zeroValue3
 t4 := Tryz.underlying4
 a4 := Tryz.isAgg4
 z4 := Tryz.sizeOf4
 v4 := Tryz.zeroValue4
 t22 := Tryz.underlying33
 a22 := Tryz.isAgg33
 z22 := Tryz.sizeOf33
 v22 := Tryz.zeroValue33
 a23 := Tryz.isAgg9
 z23 := Tryz.sizeOf9
 t25 := Tryz.underlying144
 a25 := Tryz.isAgg144
 z25 := Tryz.sizeOf144
 v25 := Tryz.zeroValue144 }
open Go.RowKit Go.Lib in
theorem Tryz.slices_ContainsFunc_empty {α : Type} [Inhabited α] (a : Option Addr) (c : Nat) (fv : Value) (w : World) :
  Calls Tryz.prog 68 #[.slice a 0 c, fv] w fun e w' => e = .returned (.bool false) ∧ w' = w := AnyE.slices_ContainsFunc_empty zKq a c fv w
def zG3 : Go.Shelf.Ren := ⟨fun | 5 => 198 | 8 => 131 | 7 => 264 | 19 => 208 | 20 => 209 | 10 => 301 | 11 => 302 | 12 => 303 | 13 => 304 | 14 => 305 | 15 => 306 | 16 => 307 | 17 => 308 | 18 => 309 | 30 => 324 | 31 => 266 | 32 => 267 | 33 => 325 | 34 => 326 | 35 => 281 | 40 => 338 | n => n, fun | 23 => 68 | 25 => 3 | 3 => 3 | 32 => 69 | 22 => 68 | 0 => 0 | 44 => 27 | 46 => 147 | 4 => 4 | 36 => 301 | 35 => 300 | 41 => 72 | 5 => 5 | 9 => 9 | 53 => 356 | 57 => 360 | 63 => 394 | 64 => 395 | n => n, fun | n => n⟩
theorem zFd : Go.Proofs.SlLaysM.n5 Tryz.prog zG3 := {
 mixed := by kernel_rfl
 f5 := ⟨Tryz.f198.name, by decide, Tryz.func198.trans (congrArg some (by kernel_rfl))⟩
 f7 := ⟨Tryz.f264.name, by decide, Tryz.func264.trans (congrArg some (by kernel_rfl))⟩
 f8 := Tryz.func131.trans (congrArg some (by kernel_rfl))
 f10 := ⟨Tryz.f301.name, by decide, Tryz.func301.trans (congrArg some (by kernel_rfl))⟩
 f11 := ⟨Tryz.f302.name, by decide, Tryz.func302.trans (congrArg some (by kernel_rfl))⟩
 f12 := ⟨Tryz.f303.name, by decide, Tryz.func303.trans (congrArg some (by kernel_rfl))⟩
 f13 := ⟨Tryz.f304.name, by decide, Tryz.func304.trans (congrArg some (by kernel_rfl))⟩
 f14 := ⟨Tryz.f305.name, by decide, Tryz.func305.trans (congrArg some (by kernel_rfl))⟩
 f15 := ⟨Tryz.f306.name, by decide, Tryz.func306.trans (congrArg some (by kernel_rfl))⟩
 f16 := ⟨Tryz.f307.name, by decide, Tryz.func307.trans (congrArg some (by kernel_rfl))⟩
 f17 := ⟨Tryz.f308.name, by decide, Tryz.func308.trans (congrArg some (by kernel_rfl))⟩
 f18 := ⟨Tryz.f309.name, by decide, Tryz.func309.trans (congrArg some (by kernel_rfl))⟩
 f19 := Tryz.func208.trans (congrArg some (by kernel_rfl))
 f20 := Tryz.func209.trans (congrArg some (by kernel_rfl))
 f30 := ⟨Tryz.f324.name, by decide, Tryz.func324.trans (congrArg some (by kernel_rfl))⟩
 f31 := Tryz.func266.trans (congrArg some (by kernel_rfl))
 f32 := Tryz.func267.trans (congrArg some (by kernel_rfl))
 f33 := ⟨Tryz.f325.name, by decide, Tryz.func325.trans (congrArg some (by kernel_rfl))⟩
 f34 := ⟨Tryz.f326.name, by decide, Tryz.func326.trans (congrArg some (by kernel_rfl))⟩
 f35 := ⟨Tryz.f281.name, by decide, Tryz.func281.trans (congrArg some (by kernel_rfl))⟩
 f40 := ⟨Tryz.f338.name, by decide, Tryz.func338.trans (congrArg some (by kernel_rfl))⟩
 t0 := Tryz.underlying0
 a0 := Tryz.isAgg0
 z0 := Tryz.sizeOf0
 v0 := Tryz.zeroValue0
 t3 := Tryz.underlying3
 a3 := Tryz.isAgg3
 z3 := Tryz.sizeOf3
 v3 := Tryz.zeroValue3
 t4 := Tryz.underlying4
 a4 := Tryz.isAgg4
 z4 := Tryz.sizeOf4
 v4 := Tryz.zeroValue4
 t5 := Tryz.underlying5
 a5 := Tryz.isAgg5
 z5 := Tryz.sizeOf5
 v5 := Tryz.zeroValue5
 t9 := Tryz.underlying9
 a9 := Tryz.isAgg9
 z9 := Tryz.sizeOf9
 v9 := Tryz.zeroValue9
 t22 := Tryz.underlying68
 a22 := Tryz.isAgg68
 z22 := Tryz.sizeOf68
 v22 := Tryz.zeroValue68
 t23 := Tryz.underlying68
 a23 := Tryz.isAgg68
 z23 := Tryz.sizeOf68
 v23 := Tryz.zeroValue68
 t25 := Tryz.underlying3
 a25 := Tryz.isAgg3
 z25 := Tryz.sizeOf3
 v25 := Tryz.zeroValue3
 t32 := Tryz.underlying69
 a32 := Tryz.isAgg69
 z32 := Tryz.sizeOf69
 v32 := Tryz.zeroValue69
 t35 := Tryz.underlying300
 a35 := Tryz.isAgg300
 z35 := Tryz.sizeOf300
 v35 := Tryz.zeroValue300
 t36 := Tryz.underlying301
 a36 := Tryz.isAgg301
 z36 := Tryz.sizeOf301
 v36 := Tryz.zeroValue301
 t41 := Tryz.underlying72
 a41 := Tryz.isAgg72
 z41 := Tryz.sizeOf72
 v41 := Tryz.zeroValue72
 t44 := Tryz.underlying27
 a44 := Tryz.isAgg27
 z44 := Tryz.sizeOf27
 v44 := Tryz.zeroValue27
 t46 := Tryz.underlying147
 a46 := Tryz.isAgg147
 z46 := Tryz.sizeOf147
 v46 := Tryz.zeroValue147
 t53 := Tryz.underlying356
 a53 := Tryz.isAgg356
 z53 := Tryz.sizeOf356
 v53 := Tryz.zeroValue356
 t57 := Tryz.underlying360
 a57 := Tryz.isAgg360
 z57 := Tryz.sizeOf360
 v57 := Tryz.zeroValue360
 t63 := Tryz.underlying394
 a63 := Tryz.isAgg394
 z63 := Tryz.sizeOf394
 v63 := Tryz.zeroValue394
 t64 := Tryz.underlying395
 a64 := Tryz.isAgg395
 z64 := Tryz.sizeOf395
 v64 := Tryz.zeroValue395 }
open Go.Sort Go.RowKit in
theorem Tryz.slices_Sort_int (blk off cap : Nat) (zs : List Int) (w : World) (hH : Holds (Value.int .i64) w blk off zs.toArray) (hblk : blk < w.heap.size) (hsz : zs.length < 4611686018427387904) :
  Calls Tryz.prog 198 #[.slice (some ⟨blk, off, none⟩) zs.length cap] w fun e w' =>
   e = .returned (.tuple #[]) ∧ ∃ n os, w' = grow (putRow (Value.int .i64) (Sort.ahead w n) blk off (zs.mergeSort fun x y => decide (x ≤ y)).toArray) os := AnyM.slices_Sort_int zFd blk off cap zs w hH hblk hsz
def zHp : Go.Shelf.Ren := ⟨fun | 6 => 57 | 8 => 131 | 9 => 130 | 19 => 208 | 20 => 209 | 21 => 199 | 22 => 200 | 23 => 201 | 24 => 202 | 25 => 203 | 26 => 204 | 27 => 205 | 28 => 206 | 29 => 207 | 36 => 265 | 31 => 266 | 32 => 267 | 37 => 268 | 38 => 269 | 39 => 270 | 41 => 310 | n => n, fun | 27 => 33 | 29 => 9 | 3 => 3 | 32 => 69 | 26 => 33 | 0 => 0 | 44 => 27 | 46 => 147 | 4 => 4 | 36 => 301 | 35 => 300 | 41 => 72 | 5 => 5 | 9 => 9 | 53 => 356 | 57 => 360 | 63 => 394 | 64 => 395 | n => n, fun | n => n⟩
theorem zF4 : Go.Proofs.SlLaysM.n6 Tryz.prog zHp := {
 mixed := by kernel_rfl
 f6 := ⟨Tryz.f57.name, by decide, Tryz.func57.trans (congrArg some (by kernel_rfl))⟩
 f8 := Tryz.func131.trans (congrArg some (by kernel_rfl))
 f9 := ⟨Tryz.f130.name, by decide, Tryz.func130.trans (congrArg some (by kernel_rfl))⟩
 f19 := Tryz.func208.trans (congrArg some (by kernel_rfl))
 f20 := Tryz.func209.trans (congrArg some (by kernel_rfl))
 f21 := ⟨Tryz.f199.name, by decide, Tryz.func199.trans (congrArg some (by kernel_rfl))⟩
 f22 := ⟨Tryz.f200.name, by decide, Tryz.func200.trans (congrArg some (by kernel_rfl))⟩
 f23 := ⟨Tryz.f201.name, by decide, Tryz.func201.trans (congrArg some (by kernel_rfl))⟩
 f24 := ⟨Tryz.f202.name, by decide, Tryz.func202.trans (congrArg some (by kernel_rfl))⟩
 f25 := ⟨Tryz.f203.name, by decide, Tryz.func203.trans (congrArg some (by kernel_rfl))⟩
 f26 := ⟨Tryz.f204.name, by decide, Tryz.func204.trans (congrArg some (by kernel_rfl))⟩
 f27 := ⟨Tryz.f205.name, by decide, Tryz.func205.trans (congrArg some (by kernel_rfl))⟩
 f28 := ⟨Tryz.f206.name, by decide, Tryz.func206.trans (congrArg some (by kernel_rfl))⟩
 f29 := ⟨Tryz.f207.name, by decide, Tryz.func207.trans (congrArg some (by kernel_rfl))⟩
 f31 := Tryz.func266.trans (congrArg some (by kernel_rfl))
 f32 := Tryz.func267.trans (congrArg some (by kernel_rfl))
 f36 := ⟨Tryz.f265.name, by decide, Tryz.func265.trans (congrArg some (by kernel_rfl))⟩
 f37 := ⟨Tryz.f268.name, by decide, Tryz.func268.trans (congrArg some (by kernel_rfl))⟩
 f38 := ⟨Tryz.f269.name, by decide, Tryz.func269.trans (congrArg some (by kernel_rfl))⟩
 f39 := ⟨Tryz.f270.name, by decide, Tryz.func270.trans (congrArg some (by kernel_rfl))⟩
 f41 := ⟨Tryz.f310.name, by decide, Tryz.func310.trans (congrArg some (by kernel_rfl))⟩
 t0 := Tryz.underlying0
 a0 := Tryz.isAgg0
 z0 := Tryz.sizeOf0
 v0 := Tryz.zeroValue0
 t3 := Tryz.underlying3
 a3 := Tryz.isAgg3
 z3 := Tryz.sizeOf3
 v3 := Tryz.zeroValue3
 t4 := Tryz.underlying4
 a4 := Tryz.isAgg4
 z4 := Tryz.sizeOf4
 v4 := Tryz.zeroValue4
 t5 := Tryz.underlying5
 a5 := Tryz.isAgg5
 z5 := Tryz.sizeOf5
 v5 := Tryz.zeroValue5
 t9 := Tryz.underlying9
 a9 := Tryz.isAgg9
 z9 := Tryz.sizeOf9
 v9 := Tryz.zeroValue9
 t26 := Tryz.underlying33
 a26 := Tryz.isAgg33
 z26 := Tryz.sizeOf33
 v26 := Tryz.zeroValue33
 t27 := Tryz.underlying33
 a27 := Tryz.isAgg33
 z27 := Tryz.sizeOf33
 v27 := Tryz.zeroValue33
 t29 := Tryz.underlying9
 a29 := Tryz.isAgg9
 z29 := Tryz.sizeOf9
 v29 := Tryz.zeroValue9
 t32 := Tryz.underlying69
 a32 := Tryz.isAgg69
 z32 := Tryz.sizeOf69
 v32 := Tryz.zeroValue69
 t35 := Tryz.underlying300
 a35 := Tryz.isAgg300
 z35 := Tryz.sizeOf300
 v35 := Tryz.zeroValue300
 t36 := Tryz.underlying301
 a36 := Tryz.isAgg301
 z36 := Tryz.sizeOf301
 v36 := Tryz.zeroValue301
 t41 := Tryz.underlying72
 a41 := Tryz.isAgg72
 z41 := Tryz.sizeOf72
 v41 := Tryz.zeroValue72
 t44 := Tryz.underlying27
 a44 := Tryz.isAgg27
 z44 := Tryz.sizeOf27
 v44 := Tryz.zeroValue27
 t46 := Tryz.underlying147
 a46 := Tryz.isAgg147
 z46 := Tryz.sizeOf147
 v46 := Tryz.zeroValue147
 t53 := Tryz.underlying356
 a53 := Tryz.isAgg356
 z53 := Tryz.sizeOf356
 v53 := Tryz.zeroValue356
 t57 := Tryz.underlying360
 a57 := Tryz.isAgg360
 z57 := Tryz.sizeOf360
 v57 := Tryz.zeroValue360
 t63 := Tryz.underlying394
 a63 := Tryz.isAgg394
 z63 := Tryz.sizeOf394
 v63 := Tryz.zeroValue394
 t64 := Tryz.underlying395
 a64 := Tryz.isAgg395
 z64 := Tryz.sizeOf395
 v64 := Tryz.zeroValue395 }
open Go.Sort Go.RowKit in
theorem Tryz.slices_Sort_string (blk off cap : Nat) (ss : List (List UInt8)) (w : World) (hH : Holds encStr w blk off ss.toArray) (hblk : blk < w.heap.size) (hsz : ss.length < 4611686018427387904) :
  Calls Tryz.prog 57 #[.slice (some ⟨blk, off, none⟩) ss.length cap] w fun e w' =>
   e = .returned (.tuple #[]) ∧ ∃ n os, w' = grow (putRow encStr (Sort.ahead w n) blk off (ss.mergeSort fun x y => decide (x ≤ y)).toArray) os := AnyM.slices_Sort_string zF4 blk off cap ss w hH hblk hsz
open Go.RowKit Go.Sort in
theorem Tryz.slices_Sort_string_none (p : Option Addr) (cap : Nat) (w : World) :
  Calls Tryz.prog 57 #[.slice p 0 cap] w fun e w' => e = .returned (.tuple #[]) ∧ w' = w := AnyM.slices_Sort_string_none zF4 p cap w
open Go.RowKit Go.Sort in
theorem Tryz.slices_Sort_int_none (p : Option Addr) (cap : Nat) (w : World) :
  Calls Tryz.prog 198 #[.slice p 0 cap] w fun e w' => e = .returned (.tuple #[]) ∧ w' = w := AnyM.slices_Sort_int_none zFd p cap w
end Go.Proofs
namespace Go.Proofs.YtgnjjfdfoibdiaaGreatDoor
section
open Go.RowKit
set_option maxRecDepth 100000
def ba (s : Str) : ByteArray := ⟨s.toArray⟩
def signB (c : Int) : Bool := (decide (97 ≤ c) && decide (c ≤ 122)) || (decide (48 ≤ c) && decide (c ≤ 57)) || c == 45 || c == 46 || c == 95
theorem sign_any (c : Int) (w : World) (h : signB c = true) : Calls Tryz.prog 143 #[.int .i32 c] w fun e w' => e = .returned (.bool true) ∧ w = w' := by
 have H := zh h;clear h;go_enter Tryz.func143, Tryz.ntmps143
 go_wp2_with fail
 all_goals (go_ret; first | exact ⟨rfl, rfl⟩ | (have h := H.out; unfold signB at h; simp at h ⊢; omega))
def zMu (l : Str) : Bool := !l.isEmpty && decide (l.length ≤ 12) && l.all (fun b => signB (b.toNat : Int)) && !(l == [46]) && !(l == [46, 46])
structure NameOk (l : Str) : Prop where
 ne : l ≠ []
 len : l.length ≤ 12
 sig : ∀ b ∈ l, signB (b.toNat : Int) = true
 d1 : l ≠ [46]
 d2 : l ≠ [46, 46]
theorem zPq {l : Str} (h : zMu l = true) : NameOk l := by
 unfold zMu at h;simp only [Bool.and_eq_true, Bool.not_eq_true', decide_eq_true_eq, List.all_eq_true] at h;obtain ⟨⟨⟨⟨h1, h2⟩, h3⟩, h4⟩, h5⟩ := h;exact ⟨fun e => by simp [e] at h1, h2, h3, fun e => by simp [e] at h4, fun e => by simp [e] at h5⟩
theorem sign_ascii {b : UInt8} (h : signB (b.toNat : Int) = true) : b.toNat < 128 := by
 unfold signB at h;simp at h;omega
theorem zP9 {l : Str} (w : World) (h : zMu l = true) : Calls Tryz.prog 63 #[.string (ba l)] w fun e w' => e = .returned (.bool true) ∧ Ext w w' := by
 have H := zh (zPq h);clear h;have hsz : (ba l).size = l.length := by simp [ba, ByteArray.size]
 have htl : (ba l).toList = l := by rw [ByteArray.toList_eq]; rfl
 have hb : ∀ (k : Nat) (hk : k < (ba l).size), ∃ h2 : k < l.length, (ba l)[k]'hk = l[k]'h2 := by
  intro k hk;refine ⟨hsz ▸ hk, ?_⟩;show (ba l).data[k]'_ = _;simp [ba]
 have HB := zh hb;have HSZ := zh hsz;have e1 : (ba l).toList.isEmpty = false := by rw [htl]; simpa using H.out.ne
 have e2 : ¬ (ba l).toList = [] := by rw [htl]; exact H.out.ne
 have e3 : ((ba l).toList == [46]) = false := by rw [htl]; simpa using H.out.d1
 have e4 : ¬ (ba l).toList = [46] := by rw [htl]; exact H.out.d1
 have e5 : ((ba l).toList == [46, 46]) = false := by rw [htl]; simpa using H.out.d2
 have e6 : ¬ (ba l).toList = [46, 46] := by rw [htl]; exact H.out.d2
 have e7 : ((ba l).size : Int) ≤ 12 := by rw [hsz]; have := H.out.len; omega
 have e8 : decide (12 < ((ba l).size : Int)) = false := by rw [hsz]; have := H.out.len; simp; omega
 clear hsz htl hb;generalize ba l = s at *;go_enter Tryz.func63, Tryz.ntmps63
 go_wp2_with fail
 go_loopw [] (fun wr => ∃ pos : Nat, pos ≤ s.size ∧ wr = w.iter s pos) (fun wr => s.size - wr.iterPos w.heap.size)
 case atStart => exact ⟨0, Nat.zero_le _, rfl⟩
 case round =>
  obtain ⟨pos, hpos, rfl⟩ := hrel
  by_cases hp : pos < s.size
  ·obtain ⟨hlt, hbp⟩ := HB.out pos hp;have hsg := H.out.sig l[pos] (List.getElem_mem hlt);have HSG := zh (show signB ((s[pos]'hp).toNat : Int) = true by rw [hbp]; exact hsg);have hna : (s[pos]'hp).toNat < 128 := sign_ascii HSG.out;have hnx : ∀ ty, (Instr.next (.pointer (some ⟨w.heap.size, 0, none⟩)) true ty).run Tryz.prog (w.iter s pos) = _ := fun ty => run_next_ascii w s pos ty hp hna
   clear hsg hbp hna
   go_wp2_with (go_at_call 143; refine (sign_any _ _ HSG.out).mono ?_; rintro e w' ⟨rfl, rfl⟩)
   go_roundw
   case rel => exact ⟨pos + 1, hp, rfl⟩
   case measure => simp; omega
  ·have hnx : ∀ ty, (Instr.next (.pointer (some ⟨w.heap.size, 0, none⟩)) true ty).run Tryz.prog (w.iter s pos) = _ := fun ty => run_next_end w s pos ty hp
   go_wp2_with fail
   go_ret
   exact ⟨rfl, (xr w).alloc _⟩
def zIa (s : Str) : ByteArray := (ba s).extract 1 (ba s).size
structure SplitOk (s : Str) (ns : List Str) : Prop where
 ne : s ≠ [47]
 len : s.length ≤ 40
 pre : Lib.hasPrefix s [47] = true
 cnt : Lib.countB (zIa s) (ba [47]) + 1 = ns.length
 parts : Lib.splitB (ba [47]) 0 (Lib.countB (zIa s) (ba [47])) (zIa s) = ns.map ba
 n5 : ns.length ≤ 5
 names : ∀ n ∈ ns, zMu n = true
def splitPost (w : World) (ns : List Str) (e : Ending) (w' : World) : Prop := ∃ v, e = .returned (.tuple #[v, .bool true]) ∧ OwnS w' w.heap.size v ns ∧ Ext w w'
theorem SRow.at {w : World} {a : Option Addr} {n c : Nat} {l : List Str} (h : SRow w (.slice a n c) l) (k : Nat) (hk : k < l.length) : ∃ b o, a = some ⟨b, o, none⟩ ∧ w.cell? ⟨b, o + k, none⟩ = some (.string (ba l[k])) := by
 obtain ⟨a', c', e, hl, hm, hn, hc⟩ := h;simp only [Value.slice.injEq] at e;obtain ⟨rfl, rfl, rfl⟩ := e;exact hc k hk
@[simp] theorem ba_toList (s : Str) : (ba s).toList = s := ByteArray.toList_mk s
@[simp] theorem ba_size (s : Str) : (ba s).size = s.length := rfl
theorem split_tail {s : Str} {ns : List Str} (m : Int) (w : World) (h : SplitOk s ns) (hm : w.cell? ⟨0, 0, none⟩ = some (.int .i64 m)) :
  Calls Tryz.prog 115 #[.string (zIa s), .string ⟨#[47]⟩] w fun e w' => e = .returned (.slice (some ⟨w.heap.size, 0, none⟩) ns.length ns.length) ∧ OwnS w' w.heap.size (.slice (some ⟨w.heap.size, 0, none⟩) ns.length ns.length) ns ∧ Ext w w' := by
 have hts : (zIa s).size < 4294967281 := by
  have := h.len;have hsz : (ba s).size = s.length := by simp [ba, ByteArray.size]
  unfold zIa;rw [ByteArray.size_extract]; omega
 refine (Tryz.strings_Split (zIa s) ⟨#[47]⟩ m w hts hm (by decide)).mono ?_;rintro e w' ⟨rfl, rfl⟩;have hc : Lib.countB (zIa s) ⟨#[47]⟩ + 1 = ns.length := h.cnt;have hp : Lib.splitB ⟨#[47]⟩ 0 (Lib.countB (zIa s) ⟨#[47]⟩) (zIa s) = ns.map ba := h.parts;rw [hc, hp];refine ⟨rfl, ?_, (xr w).alloc _⟩;have := World.ownsRow_lit (base := w.heap.size) (size := 1) (e := 9) w ((ns.map ba).map Value.string).toArray ns.length (Nat.le_refl _) (by have := h.n5; unfold maxLen; omega) (by simp);unfold OwnS
 have e : zBh ns = ((ns.map ba).map Value.string).toArray.toList := by
  simp [zBh, ba, encStr]
 rw [e];exact this
def splitRel (w w2 : World) (ns : List Str) (i : Value) (wr : World) : Prop := ∃ k : Nat, k ≤ ns.length ∧ i = .int .i64 k ∧ Hid (Ext w2 wr)
theorem zE3 {s : Str} {ns : List Str} (m : Int) (w : World) (h : SplitOk s ns) (hm : w.cell? ⟨0, 0, none⟩ = some (.int .i64 m)) : Calls Tryz.prog 49 #[.string (ba s)] w (splitPost w ns) := by
 have H := zh h;have hsz : (ba s).size = s.length := by simp [ba, ByteArray.size]
 have htl : (ba s).toList = s := by rw [ByteArray.toList_eq]; rfl
 have e1 : ((ba s).toList == [47]) = false := by rw [htl]; simpa using h.ne
 have e2 : ¬ (ba s).toList = [47] := by rw [htl]; exact h.ne
 have e3 : ((ba s).size : Int) ≤ 40 := by rw [hsz]; have := h.len; omega
 have e4 : decide (40 < ((ba s).size : Int)) = false := by rw [hsz]; have := h.len; simp; omega
 have e5 : Lib.hasPrefix (ba s).data.toList [47] = true := h.pre
 have e6 : (1 : Int) ≤ ((ba s).size : Int) := by
  rw [hsz];have hp := h.pre
  cases s with
  | nil => exact absurd hp (by decide)
  | cons a r => simp; omega
 have f1 : (s == [47]) = false := by simpa using h.ne
 have f2 : ¬ s = [47] := h.ne;have f3 : (s.length : Int) ≤ 40 := by have := h.len; omega
 have HS := zh (split_tail m w h hm);have hn5 : (ns.length : Int) ≤ 5 := by have := h.n5; omega
 clear h hm hsz htl;go_enter Tryz.func49, Tryz.ntmps49
 go_wp2_with (first
  | (go_at_call 114; refine (Tryz.strings_HasPrefix _ _ _).mono ?_; rintro e w ⟨rfl, rfl⟩)
  | (go_at_call 115; refine HS.out.mono ?_; rintro e w2 ⟨rfl, o2, x2⟩; have O2 := zh o2; have X2 := zh x2; clear o2 x2))
 clear HS
 go_loopw [25] (fun i wr => splitRel w w2 ns i wr) (fun i _ => ns.length - (intOf i).toNat)
 case atStart => exact ⟨0, Nat.zero_le _, rfl, zh (xr w2)⟩
 case round =>
  obtain ⟨wq, rfl⟩ : ∃ x : World, x = wr := ⟨_, rfl⟩
  obtain ⟨k, hk, rfl, HX⟩ := hrel
  by_cases hlt : k < ns.length
  ·obtain ⟨b, o, e, e1⟩ := (O2.out.row.ext HX.out).at k hlt;cases e;rw [Nat.zero_add] at e1;have HN := zh (zP9 wq (H.out.names ns[k] (List.getElem_mem hlt)));generalize ns[k] = n at *
   go_wp2_with (go_at_call 63; refine HN.out.mono ?_; rintro e w3 ⟨rfl, x3⟩; have X3 := zh (HX.out.trans x3); clear x3)
   go_roundw
   case rel => exact ⟨k + 1, hlt, by go_num, X3⟩
   case measure => simp [intOf]; omega
  ·go_wp2_with fail
   go_ret2
   exact ⟨_, rfl, O2.out.ext HX.out, X2.out.trans HX.out⟩
theorem Right_any {s : Str} {ns : List Str} (m : Int) (w : World) (h : SplitOk s ns) (hm : w.cell? ⟨0, 0, none⟩ = some (.int .i64 m)) : Calls Tryz.prog 147 #[.string (ba s)] w fun e w' => e = .returned (.bool true) ∧ Ext w w' := by
 have HS := zh (zE3 m w h hm);have hp : 0 < ns.length := by have := h.cnt; omega
 clear h hm;go_enter Tryz.func147, Tryz.ntmps147
 go_wp2_with (go_at_call 49; refine HS.out.mono ?_; rintro e w2 ⟨v, rfl, o2, x2⟩; have X2 := zh x2; (obtain ⟨a, c, rfl, -⟩ := o2.row.form); clear o2 x2)
 go_ret
 exact ⟨rfl, X2.out⟩
theorem strings_join {w : World} {a : Option Addr} {n c : Nat} {l : List Str} (h : SRow w (.slice a n c) l) (hl : l.length ≤ 1000) (hb : (Lib.join l [47]).length ≤ 100000) :
  Calls Tryz.prog 315 #[.slice a n c, .string ⟨#[47]⟩] w fun e w' => e = .returned (.string (ba (Lib.join l [47]))) ∧ Ext w w' := by
 obtain ⟨a', c', e, h1, h2, h3, h4⟩ := h;cases e
 cases l with
 | nil => exact (Tryz.strings_Join_none a c ⟨#[47]⟩ w).mono fun e w' h => ⟨h.1, h.2 ▸ xr w⟩
 | cons x r =>
   obtain ⟨b, o, rfl, -⟩ := h4 0 (by simp);have hm : ((x :: r).map ba).map (·.data.toList) = x :: r := by simp [ba, Function.comp_def]
   have hbk : b < w.heap.size := by
    obtain ⟨b', o', e, hc⟩ := h4 0 (by simp);cases e;exact World.block_lt_of_cell? w _ hc
   have := Tryz.strings_Join b o c ((x :: r).map ba) ⟨#[47]⟩ w (fun j y hj => by
    rw [List.getElem?_map] at hj
    cases hq : (x :: r)[j]? with
    | none => rw [hq] at hj; cases hj
    | some z =>
      rw [hq] at hj;obtain ⟨hlt, rfl⟩ := List.getElem?_eq_some_iff.1 hq;cases hj;obtain ⟨b', o', e, hc⟩ := h4 j hlt;cases e
      exact hc) hbk (by rw [List.length_map]; omega) (by rw [List.length_map]; exact h1) (by rw [hm]; exact Nat.le_trans hb (by omega))
   rw [hm, List.length_map] at this;exact this
theorem Join_any {w : World} {a : Option Addr} {n c : Nat} {l : List Str} (h : SRow w (.slice a n c) l) (hl : l.length ≤ 1000) (hb : (Lib.join l [47]).length ≤ 100000) :
  Calls Tryz.prog 285 #[.slice a n c] w fun e w' => e = .returned (.string (ba (47 :: Lib.join l [47]))) ∧ Ext w w' := by
 have HJ := zh (strings_join h hl hb);have hb2 : 1 + (Lib.join l [47]).length ≤ 9223372036854775807 := by omega
 have hap : (⟨#[47]⟩ : ByteArray) ++ ba (Lib.join l [47]) = ba (47 :: Lib.join l [47]) := ByteArray.mk_append_mk [47] _;have HAP := zh hap;clear h hb hap;go_enter Tryz.func285, Tryz.ntmps285
 go_wp2_with (go_at_call 315; refine HJ.out.mono ?_; rintro e w2 ⟨rfl, x2⟩; have X2 := zh x2; clear x2)
 go_ret
 exact ⟨by rw [← HAP.out]; rfl, X2.out⟩
theorem SRow.takeN {w : World} {a : Option Addr} {n c : Nat} {l : List Str} (h : SRow w (.slice a n c) l) (k : Nat) (hk : k ≤ l.length) : SRow w (.slice a k c) (l.take k) := by
 obtain ⟨a', c', e, h1, h2, h3, h4⟩ := h;cases e;have hl : (l.take k).length = k := by rw [List.length_take]; omega
 refine ⟨a, c, by rw [hl], by omega, h2, h3, fun i hi => ?_⟩;obtain ⟨b, o, e, hc⟩ := h4 i (by omega);exact ⟨b, o, e, by rw [hc, List.getElem_take]⟩
theorem zNk : Tryz.f259.results = #[.tmp 2, .tmp 3, .tmp 4] := by kernel_rfl
theorem Parent_any {s : Str} {ns : List Str} {n : Str} (m : Int) (w : World) (h : SplitOk s (ns ++ [n])) (hm : w.cell? ⟨0, 0, none⟩ = some (.int .i64 m)) (hb : (Lib.join ns [47]).length ≤ 100000) :
  Calls Tryz.prog 259 #[.string (ba s)] w fun e w' => e = .returned (.tuple #[.string (ba (47 :: Lib.join ns [47])), .string (ba n), .bool true]) ∧ Ext w w' := by
 have HS := zh (zE3 m w h hm);have hn5 := h.n5;have hlen : (ns ++ [n]).length = ns.length + 1 := by simp
 rw [hlen] at hn5;clear h hm
 have HS2 : Hid (Calls Tryz.prog 49 #[.string (ba s)] w fun e w' => ∃ b o c, e = .returned (.tuple #[.slice (some ⟨b, o, none⟩) (ns.length + 1) c, .bool true]) ∧ SRow w' (.slice (some ⟨b, o, none⟩) ns.length c) ns ∧ w'.cell? ⟨b, o + ns.length, none⟩ = some (.string (ba n)) ∧ Ext w w' ∧ ns.length + 1 ≤ c ∧ c ≤ 9223372036854775807) :=
  zh (HS.out.mono fun e w' h => by
   obtain ⟨v, rfl, o2, x2⟩ := h;obtain ⟨a, c, rfl, h1, h2⟩ := o2.row.form;obtain ⟨b, o, e, e1⟩ := o2.row.at ns.length (by simp);cases e;have h3 := o2.row.takeN ns.length (by simp);rw [List.take_left'] at h3
   ·refine ⟨b, o, c, by rw [hlen], h3, ?_, x2, by rw [hlen] at h1; exact h1, h2⟩;rw [e1];simp
   ·rfl)
 clear HS hlen;go_enter Tryz.func259, Tryz.ntmps259
 go_upto_region 5 with (go_at_call 49; refine HS2.out.mono ?_; rintro e w2 ⟨b, o, c, rfl, r2, c2, x2, hc1, hc2⟩; have X2 := zh x2; have R2 := zh r2; have C2 := zh c2; clear x2 r2 c2)
 clear HS2;have HJ : Hid (∀ W, Ext w2 W → Calls Tryz.prog 285 #[.slice (some ⟨b, o, none⟩) ns.length c] W fun e w' => e = .returned (.string (ba (47 :: Lib.join ns [47]))) ∧ Ext W w') := fun W x => Join_any (R2.out.ext x) (by omega) hb
 have KC : Hid (∀ W, Ext w2 W → W.cell? ⟨b, o + ns.length, none⟩ = some (.string (ba n))) := fun W x => x.cell C2.out
 clear hb;have hq1 : ns.length ≤ c := by omega
 have hq2 : (ns.length : Int) ≤ (c : Int) := by omega
 have hq3 : (ns.length : Int) < (ns.length : Int) + 1 := by omega
 have hq4 : ns.length < ns.length + 1 := by omega
 go_region_held3 (fun W => W.cell? ⟨b, o + ns.length, none⟩ = some (.string (ba n)))
  (first
   | exact KC.out _ (xr _)
   | exact KC.out _ ((xr _).drew)
   | exact KC.out _ X4.out)
  (first | ((go_at_call 285); (refine (HJ.out _ ((xr _).drew)).mono ?_); (rintro e w4 ⟨rfl, x4⟩); (have X4 : Hid (Ext w2 w4) := (xr w2).drew.trans x4); clear x4))
 all_goals
  go_wp2_with fail
  exact bodyPost_ret (v := .tuple #[.string (ba (47 :: Lib.join ns [47])), .string (ba n), .bool true]) (by simp [results, zNk, go_sem]) rfl ⟨rfl, X2.out.trans X4.out⟩
def zB0 (l u : List Str) : Bool := decide (u.length < l.length) && (l.take u.length == u)
theorem ba_inj {s t : Str} (h : ba s = ba t) : s = t := by
 have := congrArg (fun b : ByteArray => b.data.toList) h;simpa [ba] using this
def withinRel (w2 : World) (l u : List Str) (i : Value) (wr : World) : Prop := ∃ k : Nat, k ≤ u.length ∧ i = .int .i64 k ∧ Hid (Ext w2 wr) ∧ Hid (l.take k = u.take k)
theorem zH6 {s t : Str} {l u : List Str} (m : Int) (w : World) (h : SplitOk s l) (k : SplitOk t u) (hm : w.cell? ⟨0, 0, none⟩ = some (.int .i64 m)) :
  Calls Tryz.prog 26 #[.string (ba s), .string (ba t)] w fun e w' => e = .returned (.bool (zB0 l u)) ∧ Ext w w' := by
 have HS := zh (zE3 m w h hm);have HT : Hid (∀ W, Ext w W → Calls Tryz.prog 49 #[.string (ba t)] W (splitPost W u)) := fun W x => zE3 m W k (x.cell hm)
 have hu5 := k.n5;clear h k hm
 by_cases hlt : u.length < l.length
 ·go_enter Tryz.func26, Tryz.ntmps26
  go_upto_region 2 with (go_at_call 49; refine HS.out.mono ?_; rintro e w2 ⟨v, rfl, o2, x2⟩; have X2 := zh x2; (obtain ⟨a, c, rfl, -⟩ := o2.row.form); have O2 := zh o2; clear o2 x2)
  go_upto_region 6 with (go_at_call 49; refine (HT.out _ X2.out).mono ?_; rintro e w3 ⟨v, rfl, o3, x3⟩; have X3 := zh x3; (obtain ⟨a3, c3, rfl, -⟩ := o3.row.form); have O3 := zh o3; clear o3 x3)
  go_loopw [36] (fun i wr => withinRel w3 l u i wr) (fun i _ => u.length - (intOf i).toNat)
  case atStart => exact ⟨0, Nat.zero_le _, rfl, zh (xr w3), zh rfl⟩
  case round =>
   obtain ⟨wq, rfl⟩ : ∃ x : World, x = wr := ⟨_, rfl⟩
   obtain ⟨k, hk, rfl, HX, HE⟩ := hrel
   by_cases hku : k < u.length
   ·obtain ⟨b, o, e, e1⟩ := (O3.out.row.ext HX.out).at k hku;cases e;have hkl : k < l.length := by omega
    obtain ⟨b2, o2, e, e2⟩ := (O2.out.row.ext (X3.out.trans HX.out)).at k hkl;cases e;have HTU := zh (List.take_succ_eq_append_getElem hku);have HTL := zh (List.take_succ_eq_append_getElem hkl)
    by_cases heq : l[k] = u[k]
    ·have HQ := zh (show l.take (k + 1) = u.take (k + 1) by rw [HTU.out, HTL.out, HE.out, heq]);rw [heq] at e2;clear heq HTU HTL;generalize u[k] = x at *
     go_wp2_with fail
     go_roundw
     case rel => exact ⟨k + 1, hku, by go_num, HX, HQ⟩
     case measure => simp [intOf]; omega
    ·have HF := zh (show zB0 l u = false by
      unfold zB0
      have : ¬ l.take u.length = u := fun h => heq (by
       have h1 := congrArg (fun z : List Str => z[k]?) h;simp only [List.getElem?_take, hku, if_true] at h1;rw [List.getElem?_eq_getElem hkl, List.getElem?_eq_getElem hku] at h1
       exact Option.some.inj h1)
      simp [this])
     have f1 : (l[k] != u[k]) = true := by simpa using heq
     have f2 : (l[k] == u[k]) = false := by simpa using heq
     clear HTU HTL;generalize l[k] = y at *;generalize u[k] = x at *
     go_wp2_with fail
     go_ret
     exact ⟨by rw [HF.out]; rfl, X2.out.trans (X3.out.trans HX.out)⟩
   ·have HF := zh (show zB0 l u = true by
     unfold zB0;have h1 := HE.out;obtain rfl : k = u.length := by omega
     rw [List.take_length] at h1
     simp [hlt, h1])
    go_wp2_with fail
    go_ret
    exact ⟨by rw [HF.out]; rfl, X2.out.trans (X3.out.trans HX.out)⟩
 ·have HF := zh (show zB0 l u = false by unfold zB0; simp [hlt]);have hq : l.length ≤ u.length := by omega
  have hq2 : (l.length : Int) ≤ (u.length : Int) := by omega
  go_enter Tryz.func26, Tryz.ntmps26
  go_upto_region 2 with (go_at_call 49; refine HS.out.mono ?_; rintro e w2 ⟨v, rfl, o2, x2⟩; have X2 := zh x2; (obtain ⟨a, c, rfl, -⟩ := o2.row.form); have O2 := zh o2; clear o2 x2)
  go_wp2_with (go_at_call 49; refine (HT.out _ X2.out).mono ?_; rintro e w3 ⟨v, rfl, o3, x3⟩; have X3 := zh x3; (obtain ⟨a3, c3, rfl, -⟩ := o3.row.form); have O3 := zh o3; clear o3 x3)
  go_ret
  exact ⟨by rw [HF.out]; rfl, X2.out.trans X3.out⟩
end
end Go.Proofs.YtgnjjfdfoibdiaaGreatDoor
