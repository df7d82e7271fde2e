/- The types of the seat YtfmbjaeppffdpaaDoor, as the walk knows them. Made by lstypes.py. -/
import Derived.Test.YtfmbjaeppffdpaaDoorLD
import Derived.Test.YtfmbjaeppffdpaaDoorProg
namespace Go.LS.Tryd
open Go Go.LS
set_option maxRecDepth 1000000

abbrev D25 : TypeDesc := .struct #[{ name := "L", type := 22, offset := 0, embedded := false, tag := "", pkgPath := "", byteOffset := 0 }, { name := "Rows", type := 23, offset := 1, embedded := false, tag := "", pkgPath := "", byteOffset := 24 }]
abbrev D28 : TypeDesc := .struct #[{ name := "A", type := 25, offset := 0, embedded := false, tag := "", pkgPath := "", byteOffset := 0 }, { name := "B", type := 25, offset := 2, embedded := false, tag := "", pkgPath := "", byteOffset := 48 }, { name := "Keys", type := 26, offset := 4, embedded := false, tag := "", pkgPath := "", byteOffset := 96 }]
abbrev D39 : TypeDesc := .struct #[{ name := "L", type := 36, offset := 0, embedded := false, tag := "", pkgPath := "", byteOffset := 0 }, { name := "Rows", type := 37, offset := 1, embedded := false, tag := "", pkgPath := "", byteOffset := 24 }]
abbrev D57 : TypeDesc := .struct #[{ name := "A", type := 25, offset := 0, embedded := false, tag := "", pkgPath := "", byteOffset := 0 }, { name := "B", type := 25, offset := 2, embedded := false, tag := "", pkgPath := "", byteOffset := 48 }, { name := "On", type := 55, offset := 4, embedded := false, tag := "", pkgPath := "", byteOffset := 96 }, { name := "Kind", type := 3, offset := 5, embedded := false, tag := "", pkgPath := "", byteOffset := 120 }]
abbrev D74 : TypeDesc := .struct #[{ name := "T", type := 25, offset := 0, embedded := false, tag := "", pkgPath := "", byteOffset := 0 }, { name := "Keys", type := 26, offset := 2, embedded := false, tag := "", pkgPath := "", byteOffset := 48 }, { name := "X", type := 41, offset := 3, embedded := false, tag := "", pkgPath := "", byteOffset := 72 }, { name := "Y", type := 41, offset := 4, embedded := false, tag := "", pkgPath := "", byteOffset := 96 }]
abbrev D84 : TypeDesc := .struct #[{ name := "T", type := 25, offset := 0, embedded := false, tag := "", pkgPath := "", byteOffset := 0 }, { name := "Keys", type := 26, offset := 2, embedded := false, tag := "", pkgPath := "", byteOffset := 48 }, { name := "Aggs", type := 82, offset := 3, embedded := false, tag := "", pkgPath := "", byteOffset := 72 }]
abbrev D101 : TypeDesc := .struct #[{ name := "Op", type := 3, offset := 0, embedded := false, tag := "", pkgPath := "", byteOffset := 0 }, { name := "Col", type := 9, offset := 1, embedded := false, tag := "", pkgPath := "", byteOffset := 8 }, { name := "Name", type := 9, offset := 2, embedded := false, tag := "", pkgPath := "", byteOffset := 24 }]
abbrev D103 : TypeDesc := .struct #[{ name := "Kind", type := 3, offset := 0, embedded := false, tag := "", pkgPath := "", byteOffset := 0 }, { name := "S", type := 9, offset := 1, embedded := false, tag := "", pkgPath := "", byteOffset := 8 }, { name := "N", type := 2, offset := 2, embedded := false, tag := "", pkgPath := "", byteOffset := 24 }, { name := "B", type := 4, offset := 3, embedded := false, tag := "", pkgPath := "", byteOffset := 32 }]
abbrev D105 : TypeDesc := .struct #[{ name := "Name", type := 9, offset := 0, embedded := false, tag := "", pkgPath := "", byteOffset := 0 }, { name := "Kind", type := 3, offset := 1, embedded := false, tag := "", pkgPath := "", byteOffset := 16 }, { name := "Null", type := 4, offset := 2, embedded := false, tag := "", pkgPath := "", byteOffset := 24 }]
abbrev D111 : TypeDesc := .struct #[{ name := "Kind", type := 3, offset := 0, embedded := false, tag := "", pkgPath := "", byteOffset := 0 }, { name := "Old", type := 51, offset := 1, embedded := false, tag := "", pkgPath := "", byteOffset := 8 }, { name := "New", type := 51, offset := 2, embedded := false, tag := "", pkgPath := "", byteOffset := 32 }]
abbrev D123 : TypeDesc := .struct #[{ name := "Kind", type := 3, offset := 0, embedded := false, tag := "", pkgPath := "", byteOffset := 0 }, { name := "S", type := 9, offset := 1, embedded := false, tag := "", pkgPath := "", byteOffset := 8 }, { name := "N", type := 2, offset := 2, embedded := false, tag := "", pkgPath := "", byteOffset := 24 }, { name := "B", type := 3, offset := 3, embedded := false, tag := "", pkgPath := "", byteOffset := 32 }]
abbrev D131 : TypeDesc := .struct #[{ name := "Name", type := 9, offset := 0, embedded := false, tag := "", pkgPath := "", byteOffset := 0 }, { name := "Kind", type := 3, offset := 1, embedded := false, tag := "", pkgPath := "", byteOffset := 16 }, { name := "Null", type := 3, offset := 2, embedded := false, tag := "", pkgPath := "", byteOffset := 24 }]
abbrev D134 : TypeDesc := .struct #[{ name := "Kind", type := 3, offset := 0, embedded := false, tag := "", pkgPath := "", byteOffset := 0 }, { name := "Old", type := 53, offset := 1, embedded := false, tag := "", pkgPath := "", byteOffset := 8 }, { name := "New", type := 53, offset := 2, embedded := false, tag := "", pkgPath := "", byteOffset := 32 }]
abbrev D137 : TypeDesc := .struct #[{ name := "Left", type := 9, offset := 0, embedded := false, tag := "", pkgPath := "", byteOffset := 0 }, { name := "Right", type := 9, offset := 1, embedded := false, tag := "", pkgPath := "", byteOffset := 16 }]
abbrev D139 : TypeDesc := .struct #[{ name := "Left", type := 9, offset := 0, embedded := false, tag := "", pkgPath := "", byteOffset := 0 }, { name := "Right", type := 9, offset := 1, embedded := false, tag := "", pkgPath := "", byteOffset := 16 }]
abbrev D168 : TypeDesc := .struct #[{ name := "Op", type := 3, offset := 0, embedded := false, tag := "", pkgPath := "", byteOffset := 0 }, { name := "Col", type := 9, offset := 1, embedded := false, tag := "", pkgPath := "", byteOffset := 8 }, { name := "Name", type := 9, offset := 2, embedded := false, tag := "", pkgPath := "", byteOffset := 24 }]
abbrev D175 : TypeDesc := .struct #[{ name := "has", type := 4, offset := 0, embedded := false, tag := "", pkgPath := "quillpen/patch", byteOffset := 0 }, { name := "c", type := 111, offset := 1, embedded := false, tag := "", pkgPath := "quillpen/patch", byteOffset := 8 }]
abbrev D203 : TypeDesc := .struct #[{ name := "names", type := 26, offset := 0, embedded := false, tag := "", pkgPath := "quillpen/head", byteOffset := 0 }, { name := "places", type := 155, offset := 1, embedded := false, tag := "", pkgPath := "quillpen/head", byteOffset := 24 }]
def T : Tab
  | 2 => some ⟨.int .i64, 1, 8, .int .i64 0, none⟩
  | 3 => some ⟨.int .i64, 1, 8, .int .i64 0, none⟩
  | 4 => some ⟨.bool, 1, 1, .bool false, none⟩
  | 5 => some ⟨.int .u8, 1, 1, .int .u8 0, none⟩
  | 9 => some ⟨.string, 1, 16, .string ByteArray.empty, none⟩
  | 22 => some ⟨.slice 105, 1, 24, .slice none 0 0, none⟩
  | 23 => some ⟨.slice 51, 1, 24, .slice none 0 0, none⟩
  | 25 => some ⟨D25, 2, 48, .agg #[.slice none 0 0, .slice none 0 0], none⟩
  | 26 => some ⟨.slice 9, 1, 24, .slice none 0 0, none⟩
  | 28 => some ⟨D28, 5, 120, .agg #[.slice none 0 0, .slice none 0 0, .slice none 0 0, .slice none 0 0, .slice none 0 0], none⟩
  | 31 => some ⟨.int .i64, 1, 8, .int .i64 0, none⟩
  | 36 => some ⟨.slice 131, 1, 24, .slice none 0 0, none⟩
  | 37 => some ⟨.slice 53, 1, 24, .slice none 0 0, none⟩
  | 39 => some ⟨D39, 2, 48, .agg #[.slice none 0 0, .slice none 0 0], none⟩
  | 41 => some ⟨.slice 111, 1, 24, .slice none 0 0, none⟩
  | 47 => some ⟨.slice 134, 1, 24, .slice none 0 0, none⟩
  | 51 => some ⟨.slice 103, 1, 24, .slice none 0 0, none⟩
  | 53 => some ⟨.slice 123, 1, 24, .slice none 0 0, none⟩
  | 55 => some ⟨.slice 137, 1, 24, .slice none 0 0, none⟩
  | 57 => some ⟨D57, 6, 128, .agg #[.slice none 0 0, .slice none 0 0, .slice none 0 0, .slice none 0 0, .slice none 0 0, .int .i64 0], none⟩
  | 61 => some ⟨.slice 139, 1, 24, .slice none 0 0, none⟩
  | 72 => some ⟨.array 5 25, 10, 240, .agg #[.slice none 0 0, .slice none 0 0, .slice none 0 0, .slice none 0 0, .slice none 0 0, .slice none 0 0, .slice none 0 0, .slice none 0 0, .slice none 0 0, .slice none 0 0], none⟩
  | 74 => some ⟨D74, 5, 120, .agg #[.slice none 0 0, .slice none 0 0, .slice none 0 0, .slice none 0 0, .slice none 0 0], none⟩
  | 82 => some ⟨.slice 101, 1, 24, .slice none 0 0, none⟩
  | 84 => some ⟨D84, 4, 96, .agg #[.slice none 0 0, .slice none 0 0, .slice none 0 0, .slice none 0 0], none⟩
  | 90 => some ⟨.slice 168, 1, 24, .slice none 0 0, none⟩
  | 101 => some ⟨D101, 3, 40, .agg #[.int .i64 0, .string ByteArray.empty, .string ByteArray.empty], none⟩
  | 103 => some ⟨D103, 4, 40, .agg #[.int .i64 0, .string ByteArray.empty, .int .i64 0, .bool false], some [.int .i64, .string, .int .i64, .bool]⟩
  | 105 => some ⟨D105, 3, 32, .agg #[.string ByteArray.empty, .int .i64 0, .bool false], some [.string, .int .i64, .bool]⟩
  | 106 => some ⟨.slice 25, 1, 24, .slice none 0 0, none⟩
  | 111 => some ⟨D111, 3, 56, .agg #[.int .i64 0, .slice none 0 0, .slice none 0 0], none⟩
  | 113 => some ⟨.slice 3, 1, 24, .slice none 0 0, none⟩
  | 117 => some ⟨.map 9 4, 1, 8, .map none, none⟩
  | 123 => some ⟨D123, 4, 40, .agg #[.int .i64 0, .string ByteArray.empty, .int .i64 0, .int .i64 0], some [.int .i64, .string, .int .i64, .int .i64]⟩
  | 126 => some ⟨.map 9 51, 1, 8, .map none, none⟩
  | 131 => some ⟨D131, 3, 32, .agg #[.string ByteArray.empty, .int .i64 0, .int .i64 0], some [.string, .int .i64, .int .i64]⟩
  | 134 => some ⟨D134, 3, 56, .agg #[.int .i64 0, .slice none 0 0, .slice none 0 0], none⟩
  | 137 => some ⟨D137, 2, 32, .agg #[.string ByteArray.empty, .string ByteArray.empty], none⟩
  | 139 => some ⟨D139, 2, 32, .agg #[.string ByteArray.empty, .string ByteArray.empty], none⟩
  | 143 => some ⟨.map 9 113, 1, 8, .map none, none⟩
  | 154 => some ⟨.slice 4, 1, 24, .slice none 0 0, none⟩
  | 155 => some ⟨.map 9 3, 1, 8, .map none, none⟩
  | 163 => some ⟨.pointer 203, 1, 8, .pointer none, none⟩
  | 168 => some ⟨D168, 3, 40, .agg #[.int .i64 0, .string ByteArray.empty, .string ByteArray.empty], none⟩
  | 172 => some ⟨.slice 175, 1, 24, .slice none 0 0, none⟩
  | 175 => some ⟨D175, 4, 64, .agg #[.bool false, .int .i64 0, .slice none 0 0, .slice none 0 0], none⟩
  | 187 => some ⟨.slice 23, 1, 24, .slice none 0 0, none⟩
  | 194 => some ⟨.slice 5, 1, 24, .slice none 0 0, none⟩
  | 203 => some ⟨D203, 2, 32, .agg #[.slice none 0 0, .map none], none⟩
  | 204 => some ⟨.slice 41, 1, 24, .slice none 0 0, none⟩
  | 208 => some ⟨.slice 2, 1, 24, .slice none 0 0, none⟩
  | 217 => some ⟨.int .u64, 1, 8, .int .u64 0, none⟩
  | 220 => some ⟨.int .u64, 1, 8, .int .u64 0, none⟩
  | 227 => some ⟨.array 24 5, 24, 24, .agg #[.int .u8 0, .int .u8 0, .int .u8 0, .int .u8 0, .int .u8 0, .int .u8 0, .int .u8 0, .int .u8 0, .int .u8 0, .int .u8 0, .int .u8 0, .int .u8 0, .int .u8 0, .int .u8 0, .int .u8 0, .int .u8 0, .int .u8 0, .int .u8 0, .int .u8 0, .int .u8 0, .int .u8 0, .int .u8 0, .int .u8 0, .int .u8 0], none⟩
  | 234 => some ⟨.array 20 217, 20, 160, .agg #[.int .u64 0, .int .u64 0, .int .u64 0, .int .u64 0, .int .u64 0, .int .u64 0, .int .u64 0, .int .u64 0, .int .u64 0, .int .u64 0, .int .u64 0, .int .u64 0, .int .u64 0, .int .u64 0, .int .u64 0, .int .u64 0, .int .u64 0, .int .u64 0, .int .u64 0, .int .u64 0], none⟩
  | 235 => some ⟨.int .u32, 1, 4, .int .u32 0, none⟩
  | 236 => some ⟨.array 65 5, 65, 65, .agg #[.int .u8 0, .int .u8 0, .int .u8 0, .int .u8 0, .int .u8 0, .int .u8 0, .int .u8 0, .int .u8 0, .int .u8 0, .int .u8 0, .int .u8 0, .int .u8 0, .int .u8 0, .int .u8 0, .int .u8 0, .int .u8 0, .int .u8 0, .int .u8 0, .int .u8 0, .int .u8 0, .int .u8 0, .int .u8 0, .int .u8 0, .int .u8 0, .int .u8 0, .int .u8 0, .int .u8 0, .int .u8 0, .int .u8 0, .int .u8 0, .int .u8 0, .int .u8 0, .int .u8 0, .int .u8 0, .int .u8 0, .int .u8 0, .int .u8 0, .int .u8 0, .int .u8 0, .int .u8 0, .int .u8 0, .int .u8 0, .int .u8 0, .int .u8 0, .int .u8 0, .int .u8 0, .int .u8 0, .int .u8 0, .int .u8 0, .int .u8 0, .int .u8 0, .int .u8 0, .int .u8 0, .int .u8 0, .int .u8 0, .int .u8 0, .int .u8 0, .int .u8 0, .int .u8 0, .int .u8 0, .int .u8 0, .int .u8 0, .int .u8 0, .int .u8 0, .int .u8 0], none⟩
  | 239 => some ⟨.array 32 5, 32, 32, .agg #[.int .u8 0, .int .u8 0, .int .u8 0, .int .u8 0, .int .u8 0, .int .u8 0, .int .u8 0, .int .u8 0, .int .u8 0, .int .u8 0, .int .u8 0, .int .u8 0, .int .u8 0, .int .u8 0, .int .u8 0, .int .u8 0, .int .u8 0, .int .u8 0, .int .u8 0, .int .u8 0, .int .u8 0, .int .u8 0, .int .u8 0, .int .u8 0, .int .u8 0, .int .u8 0, .int .u8 0, .int .u8 0, .int .u8 0, .int .u8 0, .int .u8 0, .int .u8 0], none⟩
  | 240 => some ⟨.array 64 5, 64, 64, .agg #[.int .u8 0, .int .u8 0, .int .u8 0, .int .u8 0, .int .u8 0, .int .u8 0, .int .u8 0, .int .u8 0, .int .u8 0, .int .u8 0, .int .u8 0, .int .u8 0, .int .u8 0, .int .u8 0, .int .u8 0, .int .u8 0, .int .u8 0, .int .u8 0, .int .u8 0, .int .u8 0, .int .u8 0, .int .u8 0, .int .u8 0, .int .u8 0, .int .u8 0, .int .u8 0, .int .u8 0, .int .u8 0, .int .u8 0, .int .u8 0, .int .u8 0, .int .u8 0, .int .u8 0, .int .u8 0, .int .u8 0, .int .u8 0, .int .u8 0, .int .u8 0, .int .u8 0, .int .u8 0, .int .u8 0, .int .u8 0, .int .u8 0, .int .u8 0, .int .u8 0, .int .u8 0, .int .u8 0, .int .u8 0, .int .u8 0, .int .u8 0, .int .u8 0, .int .u8 0, .int .u8 0, .int .u8 0, .int .u8 0, .int .u8 0, .int .u8 0, .int .u8 0, .int .u8 0, .int .u8 0, .int .u8 0, .int .u8 0, .int .u8 0, .int .u8 0], none⟩
  | _ => none
theorem T2 : T 2 = some ⟨.int .i64, 1, 8, .int .i64 0, none⟩ := rfl
theorem Z2 : nilsOf T 4 2 = [none] := rfl
theorem T3 : T 3 = some ⟨.int .i64, 1, 8, .int .i64 0, none⟩ := rfl
theorem Z3 : nilsOf T 4 3 = [none] := rfl
theorem T4 : T 4 = some ⟨.bool, 1, 1, .bool false, none⟩ := rfl
theorem Z4 : nilsOf T 4 4 = [none] := rfl
theorem T5 : T 5 = some ⟨.int .u8, 1, 1, .int .u8 0, none⟩ := rfl
theorem Z5 : nilsOf T 4 5 = [none] := rfl
theorem T9 : T 9 = some ⟨.string, 1, 16, .string ByteArray.empty, none⟩ := rfl
theorem Z9 : nilsOf T 4 9 = [none] := rfl
theorem T22 : T 22 = some ⟨.slice 105, 1, 24, .slice none 0 0, none⟩ := rfl
theorem Z22 : nilsOf T 4 22 = [some 3] := rfl
theorem T23 : T 23 = some ⟨.slice 51, 1, 24, .slice none 0 0, none⟩ := rfl
theorem Z23 : nilsOf T 4 23 = [some 1] := rfl
theorem T25 : T 25 = some ⟨D25, 2, 48, .agg #[.slice none 0 0, .slice none 0 0], none⟩ := rfl
theorem Z25 : nilsOf T 4 25 = [some 3, some 1] := rfl
theorem D25_0 : fOff D25 0 = some (0, 22) := rfl
theorem D25_1 : fOff D25 1 = some (1, 23) := rfl
theorem T26 : T 26 = some ⟨.slice 9, 1, 24, .slice none 0 0, none⟩ := rfl
theorem Z26 : nilsOf T 4 26 = [some 1] := rfl
theorem T28 : T 28 = some ⟨D28, 5, 120, .agg #[.slice none 0 0, .slice none 0 0, .slice none 0 0, .slice none 0 0, .slice none 0 0], none⟩ := rfl
theorem Z28 : nilsOf T 4 28 = [some 3, some 1, some 3, some 1, some 1] := rfl
theorem D28_0 : fOff D28 0 = some (0, 25) := rfl
theorem D28_1 : fOff D28 1 = some (2, 25) := rfl
theorem D28_2 : fOff D28 2 = some (4, 26) := rfl
theorem T31 : T 31 = some ⟨.int .i64, 1, 8, .int .i64 0, none⟩ := rfl
theorem Z31 : nilsOf T 4 31 = [none] := rfl
theorem T36 : T 36 = some ⟨.slice 131, 1, 24, .slice none 0 0, none⟩ := rfl
theorem Z36 : nilsOf T 4 36 = [some 3] := rfl
theorem T37 : T 37 = some ⟨.slice 53, 1, 24, .slice none 0 0, none⟩ := rfl
theorem Z37 : nilsOf T 4 37 = [some 1] := rfl
theorem T39 : T 39 = some ⟨D39, 2, 48, .agg #[.slice none 0 0, .slice none 0 0], none⟩ := rfl
theorem Z39 : nilsOf T 4 39 = [some 3, some 1] := rfl
theorem D39_0 : fOff D39 0 = some (0, 36) := rfl
theorem D39_1 : fOff D39 1 = some (1, 37) := rfl
theorem T41 : T 41 = some ⟨.slice 111, 1, 24, .slice none 0 0, none⟩ := rfl
theorem Z41 : nilsOf T 4 41 = [some 3] := rfl
theorem T47 : T 47 = some ⟨.slice 134, 1, 24, .slice none 0 0, none⟩ := rfl
theorem Z47 : nilsOf T 4 47 = [some 3] := rfl
theorem T51 : T 51 = some ⟨.slice 103, 1, 24, .slice none 0 0, none⟩ := rfl
theorem Z51 : nilsOf T 4 51 = [some 4] := rfl
theorem T53 : T 53 = some ⟨.slice 123, 1, 24, .slice none 0 0, none⟩ := rfl
theorem Z53 : nilsOf T 4 53 = [some 4] := rfl
theorem T55 : T 55 = some ⟨.slice 137, 1, 24, .slice none 0 0, none⟩ := rfl
theorem Z55 : nilsOf T 4 55 = [some 2] := rfl
theorem T57 : T 57 = some ⟨D57, 6, 128, .agg #[.slice none 0 0, .slice none 0 0, .slice none 0 0, .slice none 0 0, .slice none 0 0, .int .i64 0], none⟩ := rfl
theorem Z57 : nilsOf T 4 57 = [some 3, some 1, some 3, some 1, some 2, none] := rfl
theorem D57_0 : fOff D57 0 = some (0, 25) := rfl
theorem D57_1 : fOff D57 1 = some (2, 25) := rfl
theorem D57_2 : fOff D57 2 = some (4, 55) := rfl
theorem D57_3 : fOff D57 3 = some (5, 3) := rfl
theorem T61 : T 61 = some ⟨.slice 139, 1, 24, .slice none 0 0, none⟩ := rfl
theorem Z61 : nilsOf T 4 61 = [some 2] := rfl
theorem T72 : T 72 = some ⟨.array 5 25, 10, 240, .agg #[.slice none 0 0, .slice none 0 0, .slice none 0 0, .slice none 0 0, .slice none 0 0, .slice none 0 0, .slice none 0 0, .slice none 0 0, .slice none 0 0, .slice none 0 0], none⟩ := rfl
theorem Z72 : nilsOf T 4 72 = [none, none, none, none, none, none, none, none, none, none] := rfl
theorem T74 : T 74 = some ⟨D74, 5, 120, .agg #[.slice none 0 0, .slice none 0 0, .slice none 0 0, .slice none 0 0, .slice none 0 0], none⟩ := rfl
theorem Z74 : nilsOf T 4 74 = [some 3, some 1, some 1, some 3, some 3] := rfl
theorem D74_0 : fOff D74 0 = some (0, 25) := rfl
theorem D74_1 : fOff D74 1 = some (2, 26) := rfl
theorem D74_2 : fOff D74 2 = some (3, 41) := rfl
theorem D74_3 : fOff D74 3 = some (4, 41) := rfl
theorem T82 : T 82 = some ⟨.slice 101, 1, 24, .slice none 0 0, none⟩ := rfl
theorem Z82 : nilsOf T 4 82 = [some 3] := rfl
theorem T84 : T 84 = some ⟨D84, 4, 96, .agg #[.slice none 0 0, .slice none 0 0, .slice none 0 0, .slice none 0 0], none⟩ := rfl
theorem Z84 : nilsOf T 4 84 = [some 3, some 1, some 1, some 3] := rfl
theorem D84_0 : fOff D84 0 = some (0, 25) := rfl
theorem D84_1 : fOff D84 1 = some (2, 26) := rfl
theorem D84_2 : fOff D84 2 = some (3, 82) := rfl
theorem T90 : T 90 = some ⟨.slice 168, 1, 24, .slice none 0 0, none⟩ := rfl
theorem Z90 : nilsOf T 4 90 = [some 3] := rfl
theorem T101 : T 101 = some ⟨D101, 3, 40, .agg #[.int .i64 0, .string ByteArray.empty, .string ByteArray.empty], none⟩ := rfl
theorem Z101 : nilsOf T 4 101 = [none, none, none] := rfl
theorem D101_0 : fOff D101 0 = some (0, 3) := rfl
theorem D101_1 : fOff D101 1 = some (1, 9) := rfl
theorem D101_2 : fOff D101 2 = some (2, 9) := rfl
theorem T103 : T 103 = some ⟨D103, 4, 40, .agg #[.int .i64 0, .string ByteArray.empty, .int .i64 0, .bool false], some [.int .i64, .string, .int .i64, .bool]⟩ := rfl
theorem Z103 : nilsOf T 4 103 = [none, none, none, none] := rfl
theorem D103_0 : fOff D103 0 = some (0, 3) := rfl
theorem D103_1 : fOff D103 1 = some (1, 9) := rfl
theorem D103_2 : fOff D103 2 = some (2, 2) := rfl
theorem D103_3 : fOff D103 3 = some (3, 4) := rfl
theorem T105 : T 105 = some ⟨D105, 3, 32, .agg #[.string ByteArray.empty, .int .i64 0, .bool false], some [.string, .int .i64, .bool]⟩ := rfl
theorem Z105 : nilsOf T 4 105 = [none, none, none] := rfl
theorem D105_0 : fOff D105 0 = some (0, 9) := rfl
theorem D105_1 : fOff D105 1 = some (1, 3) := rfl
theorem D105_2 : fOff D105 2 = some (2, 4) := rfl
theorem T106 : T 106 = some ⟨.slice 25, 1, 24, .slice none 0 0, none⟩ := rfl
theorem Z106 : nilsOf T 4 106 = [some 2] := rfl
theorem T111 : T 111 = some ⟨D111, 3, 56, .agg #[.int .i64 0, .slice none 0 0, .slice none 0 0], none⟩ := rfl
theorem Z111 : nilsOf T 4 111 = [none, some 4, some 4] := rfl
theorem D111_0 : fOff D111 0 = some (0, 3) := rfl
theorem D111_1 : fOff D111 1 = some (1, 51) := rfl
theorem D111_2 : fOff D111 2 = some (2, 51) := rfl
theorem T113 : T 113 = some ⟨.slice 3, 1, 24, .slice none 0 0, none⟩ := rfl
theorem Z113 : nilsOf T 4 113 = [some 1] := rfl
theorem T117 : T 117 = some ⟨.map 9 4, 1, 8, .map none, none⟩ := rfl
theorem Z117 : nilsOf T 4 117 = [none] := rfl
theorem T123 : T 123 = some ⟨D123, 4, 40, .agg #[.int .i64 0, .string ByteArray.empty, .int .i64 0, .int .i64 0], some [.int .i64, .string, .int .i64, .int .i64]⟩ := rfl
theorem Z123 : nilsOf T 4 123 = [none, none, none, none] := rfl
theorem D123_0 : fOff D123 0 = some (0, 3) := rfl
theorem D123_1 : fOff D123 1 = some (1, 9) := rfl
theorem D123_2 : fOff D123 2 = some (2, 2) := rfl
theorem D123_3 : fOff D123 3 = some (3, 3) := rfl
theorem T126 : T 126 = some ⟨.map 9 51, 1, 8, .map none, none⟩ := rfl
theorem Z126 : nilsOf T 4 126 = [none] := rfl
theorem T131 : T 131 = some ⟨D131, 3, 32, .agg #[.string ByteArray.empty, .int .i64 0, .int .i64 0], some [.string, .int .i64, .int .i64]⟩ := rfl
theorem Z131 : nilsOf T 4 131 = [none, none, none] := rfl
theorem D131_0 : fOff D131 0 = some (0, 9) := rfl
theorem D131_1 : fOff D131 1 = some (1, 3) := rfl
theorem D131_2 : fOff D131 2 = some (2, 3) := rfl
theorem T134 : T 134 = some ⟨D134, 3, 56, .agg #[.int .i64 0, .slice none 0 0, .slice none 0 0], none⟩ := rfl
theorem Z134 : nilsOf T 4 134 = [none, some 4, some 4] := rfl
theorem D134_0 : fOff D134 0 = some (0, 3) := rfl
theorem D134_1 : fOff D134 1 = some (1, 53) := rfl
theorem D134_2 : fOff D134 2 = some (2, 53) := rfl
theorem T137 : T 137 = some ⟨D137, 2, 32, .agg #[.string ByteArray.empty, .string ByteArray.empty], none⟩ := rfl
theorem Z137 : nilsOf T 4 137 = [none, none] := rfl
theorem D137_0 : fOff D137 0 = some (0, 9) := rfl
theorem D137_1 : fOff D137 1 = some (1, 9) := rfl
theorem T139 : T 139 = some ⟨D139, 2, 32, .agg #[.string ByteArray.empty, .string ByteArray.empty], none⟩ := rfl
theorem Z139 : nilsOf T 4 139 = [none, none] := rfl
theorem D139_0 : fOff D139 0 = some (0, 9) := rfl
theorem D139_1 : fOff D139 1 = some (1, 9) := rfl
theorem T143 : T 143 = some ⟨.map 9 113, 1, 8, .map none, none⟩ := rfl
theorem Z143 : nilsOf T 4 143 = [none] := rfl
theorem T154 : T 154 = some ⟨.slice 4, 1, 24, .slice none 0 0, none⟩ := rfl
theorem Z154 : nilsOf T 4 154 = [some 1] := rfl
theorem T155 : T 155 = some ⟨.map 9 3, 1, 8, .map none, none⟩ := rfl
theorem Z155 : nilsOf T 4 155 = [none] := rfl
theorem T163 : T 163 = some ⟨.pointer 203, 1, 8, .pointer none, none⟩ := rfl
theorem Z163 : nilsOf T 4 163 = [none] := rfl
theorem T168 : T 168 = some ⟨D168, 3, 40, .agg #[.int .i64 0, .string ByteArray.empty, .string ByteArray.empty], none⟩ := rfl
theorem Z168 : nilsOf T 4 168 = [none, none, none] := rfl
theorem D168_0 : fOff D168 0 = some (0, 3) := rfl
theorem D168_1 : fOff D168 1 = some (1, 9) := rfl
theorem D168_2 : fOff D168 2 = some (2, 9) := rfl
theorem T172 : T 172 = some ⟨.slice 175, 1, 24, .slice none 0 0, none⟩ := rfl
theorem Z172 : nilsOf T 4 172 = [some 4] := rfl
theorem T175 : T 175 = some ⟨D175, 4, 64, .agg #[.bool false, .int .i64 0, .slice none 0 0, .slice none 0 0], none⟩ := rfl
theorem Z175 : nilsOf T 4 175 = [none, none, some 4, some 4] := rfl
theorem D175_0 : fOff D175 0 = some (0, 4) := rfl
theorem D175_1 : fOff D175 1 = some (1, 111) := rfl
theorem T187 : T 187 = some ⟨.slice 23, 1, 24, .slice none 0 0, none⟩ := rfl
theorem Z187 : nilsOf T 4 187 = [some 1] := rfl
theorem T194 : T 194 = some ⟨.slice 5, 1, 24, .slice none 0 0, none⟩ := rfl
theorem Z194 : nilsOf T 4 194 = [some 1] := rfl
theorem T203 : T 203 = some ⟨D203, 2, 32, .agg #[.slice none 0 0, .map none], none⟩ := rfl
theorem Z203 : nilsOf T 4 203 = [some 1, none] := rfl
theorem D203_0 : fOff D203 0 = some (0, 26) := rfl
theorem D203_1 : fOff D203 1 = some (1, 155) := rfl
theorem T204 : T 204 = some ⟨.slice 41, 1, 24, .slice none 0 0, none⟩ := rfl
theorem Z204 : nilsOf T 4 204 = [some 1] := rfl
theorem T208 : T 208 = some ⟨.slice 2, 1, 24, .slice none 0 0, none⟩ := rfl
theorem Z208 : nilsOf T 4 208 = [some 1] := rfl
theorem T217 : T 217 = some ⟨.int .u64, 1, 8, .int .u64 0, none⟩ := rfl
theorem Z217 : nilsOf T 4 217 = [none] := rfl
theorem T220 : T 220 = some ⟨.int .u64, 1, 8, .int .u64 0, none⟩ := rfl
theorem Z220 : nilsOf T 4 220 = [none] := rfl
theorem T227 : T 227 = some ⟨.array 24 5, 24, 24, .agg #[.int .u8 0, .int .u8 0, .int .u8 0, .int .u8 0, .int .u8 0, .int .u8 0, .int .u8 0, .int .u8 0, .int .u8 0, .int .u8 0, .int .u8 0, .int .u8 0, .int .u8 0, .int .u8 0, .int .u8 0, .int .u8 0, .int .u8 0, .int .u8 0, .int .u8 0, .int .u8 0, .int .u8 0, .int .u8 0, .int .u8 0, .int .u8 0], none⟩ := rfl
theorem Z227 : nilsOf T 4 227 = [none, none, none, none, none, none, none, none, none, none, none, none, none, none, none, none, none, none, none, none, none, none, none, none] := rfl
theorem T234 : T 234 = some ⟨.array 20 217, 20, 160, .agg #[.int .u64 0, .int .u64 0, .int .u64 0, .int .u64 0, .int .u64 0, .int .u64 0, .int .u64 0, .int .u64 0, .int .u64 0, .int .u64 0, .int .u64 0, .int .u64 0, .int .u64 0, .int .u64 0, .int .u64 0, .int .u64 0, .int .u64 0, .int .u64 0, .int .u64 0, .int .u64 0], none⟩ := rfl
theorem Z234 : nilsOf T 4 234 = [none, none, none, none, none, none, none, none, none, none, none, none, none, none, none, none, none, none, none, none] := rfl
theorem T235 : T 235 = some ⟨.int .u32, 1, 4, .int .u32 0, none⟩ := rfl
theorem Z235 : nilsOf T 4 235 = [none] := rfl
theorem T236 : T 236 = some ⟨.array 65 5, 65, 65, .agg #[.int .u8 0, .int .u8 0, .int .u8 0, .int .u8 0, .int .u8 0, .int .u8 0, .int .u8 0, .int .u8 0, .int .u8 0, .int .u8 0, .int .u8 0, .int .u8 0, .int .u8 0, .int .u8 0, .int .u8 0, .int .u8 0, .int .u8 0, .int .u8 0, .int .u8 0, .int .u8 0, .int .u8 0, .int .u8 0, .int .u8 0, .int .u8 0, .int .u8 0, .int .u8 0, .int .u8 0, .int .u8 0, .int .u8 0, .int .u8 0, .int .u8 0, .int .u8 0, .int .u8 0, .int .u8 0, .int .u8 0, .int .u8 0, .int .u8 0, .int .u8 0, .int .u8 0, .int .u8 0, .int .u8 0, .int .u8 0, .int .u8 0, .int .u8 0, .int .u8 0, .int .u8 0, .int .u8 0, .int .u8 0, .int .u8 0, .int .u8 0, .int .u8 0, .int .u8 0, .int .u8 0, .int .u8 0, .int .u8 0, .int .u8 0, .int .u8 0, .int .u8 0, .int .u8 0, .int .u8 0, .int .u8 0, .int .u8 0, .int .u8 0, .int .u8 0, .int .u8 0], none⟩ := rfl
theorem Z236 : nilsOf T 4 236 = [none, none, none, none, none, none, none, none, none, none, none, none, none, none, none, none, none, none, none, none, none, none, none, none, none, none, none, none, none, none, none, none, none, none, none, none, none, none, none, none, none, none, none, none, none, none, none, none, none, none, none, none, none, none, none, none, none, none, none, none, none, none, none, none, none] := rfl
theorem T239 : T 239 = some ⟨.array 32 5, 32, 32, .agg #[.int .u8 0, .int .u8 0, .int .u8 0, .int .u8 0, .int .u8 0, .int .u8 0, .int .u8 0, .int .u8 0, .int .u8 0, .int .u8 0, .int .u8 0, .int .u8 0, .int .u8 0, .int .u8 0, .int .u8 0, .int .u8 0, .int .u8 0, .int .u8 0, .int .u8 0, .int .u8 0, .int .u8 0, .int .u8 0, .int .u8 0, .int .u8 0, .int .u8 0, .int .u8 0, .int .u8 0, .int .u8 0, .int .u8 0, .int .u8 0, .int .u8 0, .int .u8 0], none⟩ := rfl
theorem Z239 : nilsOf T 4 239 = [none, none, none, none, none, none, none, none, none, none, none, none, none, none, none, none, none, none, none, none, none, none, none, none, none, none, none, none, none, none, none, none] := rfl
theorem T240 : T 240 = some ⟨.array 64 5, 64, 64, .agg #[.int .u8 0, .int .u8 0, .int .u8 0, .int .u8 0, .int .u8 0, .int .u8 0, .int .u8 0, .int .u8 0, .int .u8 0, .int .u8 0, .int .u8 0, .int .u8 0, .int .u8 0, .int .u8 0, .int .u8 0, .int .u8 0, .int .u8 0, .int .u8 0, .int .u8 0, .int .u8 0, .int .u8 0, .int .u8 0, .int .u8 0, .int .u8 0, .int .u8 0, .int .u8 0, .int .u8 0, .int .u8 0, .int .u8 0, .int .u8 0, .int .u8 0, .int .u8 0, .int .u8 0, .int .u8 0, .int .u8 0, .int .u8 0, .int .u8 0, .int .u8 0, .int .u8 0, .int .u8 0, .int .u8 0, .int .u8 0, .int .u8 0, .int .u8 0, .int .u8 0, .int .u8 0, .int .u8 0, .int .u8 0, .int .u8 0, .int .u8 0, .int .u8 0, .int .u8 0, .int .u8 0, .int .u8 0, .int .u8 0, .int .u8 0, .int .u8 0, .int .u8 0, .int .u8 0, .int .u8 0, .int .u8 0, .int .u8 0, .int .u8 0, .int .u8 0], none⟩ := rfl
theorem Z240 : nilsOf T 4 240 = [none, none, none, none, none, none, none, none, none, none, none, none, none, none, none, none, none, none, none, none, none, none, none, none, none, none, none, none, none, none, none, none, none, none, none, none, none, none, none, none, none, none, none, none, none, none, none, none, none, none, none, none, none, none, none, none, none, none, none, none, none, none, none, none] := rfl
theorem ok2 : okTI Go.Proofs.Tryd.prog 2 ⟨.int .i64, 1, 8, .int .i64 0, none⟩ := ⟨by rfl, ⟨_, by rfl, rfl, rfl, rfl⟩, (fun _ h => by cases h), by decide⟩
theorem ok3 : okTI Go.Proofs.Tryd.prog 3 ⟨.int .i64, 1, 8, .int .i64 0, none⟩ := ⟨by rfl, ⟨_, by rfl, rfl, rfl, rfl⟩, (fun _ h => by cases h), by decide⟩
theorem ok4 : okTI Go.Proofs.Tryd.prog 4 ⟨.bool, 1, 1, .bool false, none⟩ := ⟨by rfl, ⟨_, by rfl, rfl, rfl, rfl⟩, (fun _ h => by cases h), by decide⟩
theorem ok5 : okTI Go.Proofs.Tryd.prog 5 ⟨.int .u8, 1, 1, .int .u8 0, none⟩ := ⟨by rfl, ⟨_, by rfl, rfl, rfl, rfl⟩, (fun _ h => by cases h), by decide⟩
theorem ok9 : okTI Go.Proofs.Tryd.prog 9 ⟨.string, 1, 16, .string ByteArray.empty, none⟩ := ⟨by rfl, ⟨_, by rfl, rfl, rfl, rfl⟩, (fun _ h => by cases h), by decide⟩
theorem ok22 : okTI Go.Proofs.Tryd.prog 22 ⟨.slice 105, 1, 24, .slice none 0 0, none⟩ := ⟨by rfl, ⟨_, by rfl, rfl, rfl, rfl⟩, (fun _ h => by cases h), by decide⟩
theorem ok23 : okTI Go.Proofs.Tryd.prog 23 ⟨.slice 51, 1, 24, .slice none 0 0, none⟩ := ⟨by rfl, ⟨_, by rfl, rfl, rfl, rfl⟩, (fun _ h => by cases h), by decide⟩
theorem ok25 : okTI Go.Proofs.Tryd.prog 25 ⟨D25, 2, 48, .agg #[.slice none 0 0, .slice none 0 0], none⟩ := ⟨by rfl, ⟨_, by rfl, rfl, rfl, rfl⟩, (fun _ h => by cases h), by decide⟩
theorem ok26 : okTI Go.Proofs.Tryd.prog 26 ⟨.slice 9, 1, 24, .slice none 0 0, none⟩ := ⟨by rfl, ⟨_, by rfl, rfl, rfl, rfl⟩, (fun _ h => by cases h), by decide⟩
theorem ok28 : okTI Go.Proofs.Tryd.prog 28 ⟨D28, 5, 120, .agg #[.slice none 0 0, .slice none 0 0, .slice none 0 0, .slice none 0 0, .slice none 0 0], none⟩ := ⟨by rfl, ⟨_, by rfl, rfl, rfl, rfl⟩, (fun _ h => by cases h), by decide⟩
theorem ok31 : okTI Go.Proofs.Tryd.prog 31 ⟨.int .i64, 1, 8, .int .i64 0, none⟩ := ⟨by rfl, ⟨_, by rfl, rfl, rfl, rfl⟩, (fun _ h => by cases h), by decide⟩
theorem ok36 : okTI Go.Proofs.Tryd.prog 36 ⟨.slice 131, 1, 24, .slice none 0 0, none⟩ := ⟨by rfl, ⟨_, by rfl, rfl, rfl, rfl⟩, (fun _ h => by cases h), by decide⟩
theorem ok37 : okTI Go.Proofs.Tryd.prog 37 ⟨.slice 53, 1, 24, .slice none 0 0, none⟩ := ⟨by rfl, ⟨_, by rfl, rfl, rfl, rfl⟩, (fun _ h => by cases h), by decide⟩
theorem ok39 : okTI Go.Proofs.Tryd.prog 39 ⟨D39, 2, 48, .agg #[.slice none 0 0, .slice none 0 0], none⟩ := ⟨by rfl, ⟨_, by rfl, rfl, rfl, rfl⟩, (fun _ h => by cases h), by decide⟩
theorem ok41 : okTI Go.Proofs.Tryd.prog 41 ⟨.slice 111, 1, 24, .slice none 0 0, none⟩ := ⟨by rfl, ⟨_, by rfl, rfl, rfl, rfl⟩, (fun _ h => by cases h), by decide⟩
theorem ok47 : okTI Go.Proofs.Tryd.prog 47 ⟨.slice 134, 1, 24, .slice none 0 0, none⟩ := ⟨by rfl, ⟨_, by rfl, rfl, rfl, rfl⟩, (fun _ h => by cases h), by decide⟩
theorem ok51 : okTI Go.Proofs.Tryd.prog 51 ⟨.slice 103, 1, 24, .slice none 0 0, none⟩ := ⟨by rfl, ⟨_, by rfl, rfl, rfl, rfl⟩, (fun _ h => by cases h), by decide⟩
theorem ok53 : okTI Go.Proofs.Tryd.prog 53 ⟨.slice 123, 1, 24, .slice none 0 0, none⟩ := ⟨by rfl, ⟨_, by rfl, rfl, rfl, rfl⟩, (fun _ h => by cases h), by decide⟩
theorem ok55 : okTI Go.Proofs.Tryd.prog 55 ⟨.slice 137, 1, 24, .slice none 0 0, none⟩ := ⟨by rfl, ⟨_, by rfl, rfl, rfl, rfl⟩, (fun _ h => by cases h), by decide⟩
theorem ok57 : okTI Go.Proofs.Tryd.prog 57 ⟨D57, 6, 128, .agg #[.slice none 0 0, .slice none 0 0, .slice none 0 0, .slice none 0 0, .slice none 0 0, .int .i64 0], none⟩ := ⟨by rfl, ⟨_, by rfl, rfl, rfl, rfl⟩, (fun _ h => by cases h), by decide⟩
theorem ok61 : okTI Go.Proofs.Tryd.prog 61 ⟨.slice 139, 1, 24, .slice none 0 0, none⟩ := ⟨by rfl, ⟨_, by rfl, rfl, rfl, rfl⟩, (fun _ h => by cases h), by decide⟩
theorem ok72 : okTI Go.Proofs.Tryd.prog 72 ⟨.array 5 25, 10, 240, .agg #[.slice none 0 0, .slice none 0 0, .slice none 0 0, .slice none 0 0, .slice none 0 0, .slice none 0 0, .slice none 0 0, .slice none 0 0, .slice none 0 0, .slice none 0 0], none⟩ := ⟨by rfl, ⟨_, by rfl, rfl, rfl, rfl⟩, (fun _ h => by cases h), by decide⟩
theorem ok74 : okTI Go.Proofs.Tryd.prog 74 ⟨D74, 5, 120, .agg #[.slice none 0 0, .slice none 0 0, .slice none 0 0, .slice none 0 0, .slice none 0 0], none⟩ := ⟨by rfl, ⟨_, by rfl, rfl, rfl, rfl⟩, (fun _ h => by cases h), by decide⟩
theorem ok82 : okTI Go.Proofs.Tryd.prog 82 ⟨.slice 101, 1, 24, .slice none 0 0, none⟩ := ⟨by rfl, ⟨_, by rfl, rfl, rfl, rfl⟩, (fun _ h => by cases h), by decide⟩
theorem ok84 : okTI Go.Proofs.Tryd.prog 84 ⟨D84, 4, 96, .agg #[.slice none 0 0, .slice none 0 0, .slice none 0 0, .slice none 0 0], none⟩ := ⟨by rfl, ⟨_, by rfl, rfl, rfl, rfl⟩, (fun _ h => by cases h), by decide⟩
theorem ok90 : okTI Go.Proofs.Tryd.prog 90 ⟨.slice 168, 1, 24, .slice none 0 0, none⟩ := ⟨by rfl, ⟨_, by rfl, rfl, rfl, rfl⟩, (fun _ h => by cases h), by decide⟩
theorem ok101 : okTI Go.Proofs.Tryd.prog 101 ⟨D101, 3, 40, .agg #[.int .i64 0, .string ByteArray.empty, .string ByteArray.empty], none⟩ := ⟨by rfl, ⟨_, by rfl, rfl, rfl, rfl⟩, (fun _ h => by cases h), by decide⟩
theorem ok103 : okTI Go.Proofs.Tryd.prog 103 ⟨D103, 4, 40, .agg #[.int .i64 0, .string ByteArray.empty, .int .i64 0, .bool false], some [.int .i64, .string, .int .i64, .bool]⟩ := ⟨by rfl, ⟨_, by rfl, rfl, rfl, rfl⟩, (fun _ h => by
    injection h with h; subst h
    refine ⟨Go.Proofs.Tryd.stoodInHeld103, Go.Proofs.Tryd.eqGuardType103, _, rfl, rfl, fun j f hj => ?_⟩
    match j, hj with
    | 0, hj => injection hj with hj; subst hj; exact ⟨rfl, by decide, by rfl⟩
    | 1, hj => injection hj with hj; subst hj; exact ⟨rfl, by decide, by rfl⟩
    | 2, hj => injection hj with hj; subst hj; exact ⟨rfl, by decide, by rfl⟩
    | 3, hj => injection hj with hj; subst hj; exact ⟨rfl, by decide, by rfl⟩
    | k + 4, hj => simp at hj), by decide⟩
theorem ok105 : okTI Go.Proofs.Tryd.prog 105 ⟨D105, 3, 32, .agg #[.string ByteArray.empty, .int .i64 0, .bool false], some [.string, .int .i64, .bool]⟩ := ⟨by rfl, ⟨_, by rfl, rfl, rfl, rfl⟩, (fun _ h => by
    injection h with h; subst h
    refine ⟨Go.Proofs.Tryd.stoodInHeld105, Go.Proofs.Tryd.eqGuardType105, _, rfl, rfl, fun j f hj => ?_⟩
    match j, hj with
    | 0, hj => injection hj with hj; subst hj; exact ⟨rfl, by decide, by rfl⟩
    | 1, hj => injection hj with hj; subst hj; exact ⟨rfl, by decide, by rfl⟩
    | 2, hj => injection hj with hj; subst hj; exact ⟨rfl, by decide, by rfl⟩
    | k + 3, hj => simp at hj), by decide⟩
theorem ok106 : okTI Go.Proofs.Tryd.prog 106 ⟨.slice 25, 1, 24, .slice none 0 0, none⟩ := ⟨by rfl, ⟨_, by rfl, rfl, rfl, rfl⟩, (fun _ h => by cases h), by decide⟩
theorem ok111 : okTI Go.Proofs.Tryd.prog 111 ⟨D111, 3, 56, .agg #[.int .i64 0, .slice none 0 0, .slice none 0 0], none⟩ := ⟨by rfl, ⟨_, by rfl, rfl, rfl, rfl⟩, (fun _ h => by cases h), by decide⟩
theorem ok113 : okTI Go.Proofs.Tryd.prog 113 ⟨.slice 3, 1, 24, .slice none 0 0, none⟩ := ⟨by rfl, ⟨_, by rfl, rfl, rfl, rfl⟩, (fun _ h => by cases h), by decide⟩
theorem ok117 : okTI Go.Proofs.Tryd.prog 117 ⟨.map 9 4, 1, 8, .map none, none⟩ := ⟨by rfl, ⟨_, by rfl, rfl, rfl, rfl⟩, (fun _ h => by cases h), by decide⟩
theorem ok123 : okTI Go.Proofs.Tryd.prog 123 ⟨D123, 4, 40, .agg #[.int .i64 0, .string ByteArray.empty, .int .i64 0, .int .i64 0], some [.int .i64, .string, .int .i64, .int .i64]⟩ := ⟨by rfl, ⟨_, by rfl, rfl, rfl, rfl⟩, (fun _ h => by
    injection h with h; subst h
    refine ⟨Go.Proofs.Tryd.stoodInHeld123, Go.Proofs.Tryd.eqGuardType123, _, rfl, rfl, fun j f hj => ?_⟩
    match j, hj with
    | 0, hj => injection hj with hj; subst hj; exact ⟨rfl, by decide, by rfl⟩
    | 1, hj => injection hj with hj; subst hj; exact ⟨rfl, by decide, by rfl⟩
    | 2, hj => injection hj with hj; subst hj; exact ⟨rfl, by decide, by rfl⟩
    | 3, hj => injection hj with hj; subst hj; exact ⟨rfl, by decide, by rfl⟩
    | k + 4, hj => simp at hj), by decide⟩
theorem ok126 : okTI Go.Proofs.Tryd.prog 126 ⟨.map 9 51, 1, 8, .map none, none⟩ := ⟨by rfl, ⟨_, by rfl, rfl, rfl, rfl⟩, (fun _ h => by cases h), by decide⟩
theorem ok131 : okTI Go.Proofs.Tryd.prog 131 ⟨D131, 3, 32, .agg #[.string ByteArray.empty, .int .i64 0, .int .i64 0], some [.string, .int .i64, .int .i64]⟩ := ⟨by rfl, ⟨_, by rfl, rfl, rfl, rfl⟩, (fun _ h => by
    injection h with h; subst h
    refine ⟨Go.Proofs.Tryd.stoodInHeld131, Go.Proofs.Tryd.eqGuardType131, _, rfl, rfl, fun j f hj => ?_⟩
    match j, hj with
    | 0, hj => injection hj with hj; subst hj; exact ⟨rfl, by decide, by rfl⟩
    | 1, hj => injection hj with hj; subst hj; exact ⟨rfl, by decide, by rfl⟩
    | 2, hj => injection hj with hj; subst hj; exact ⟨rfl, by decide, by rfl⟩
    | k + 3, hj => simp at hj), by decide⟩
theorem ok134 : okTI Go.Proofs.Tryd.prog 134 ⟨D134, 3, 56, .agg #[.int .i64 0, .slice none 0 0, .slice none 0 0], none⟩ := ⟨by rfl, ⟨_, by rfl, rfl, rfl, rfl⟩, (fun _ h => by cases h), by decide⟩
theorem ok137 : okTI Go.Proofs.Tryd.prog 137 ⟨D137, 2, 32, .agg #[.string ByteArray.empty, .string ByteArray.empty], none⟩ := ⟨by rfl, ⟨_, by rfl, rfl, rfl, rfl⟩, (fun _ h => by cases h), by decide⟩
theorem ok139 : okTI Go.Proofs.Tryd.prog 139 ⟨D139, 2, 32, .agg #[.string ByteArray.empty, .string ByteArray.empty], none⟩ := ⟨by rfl, ⟨_, by rfl, rfl, rfl, rfl⟩, (fun _ h => by cases h), by decide⟩
theorem ok143 : okTI Go.Proofs.Tryd.prog 143 ⟨.map 9 113, 1, 8, .map none, none⟩ := ⟨by rfl, ⟨_, by rfl, rfl, rfl, rfl⟩, (fun _ h => by cases h), by decide⟩
theorem ok154 : okTI Go.Proofs.Tryd.prog 154 ⟨.slice 4, 1, 24, .slice none 0 0, none⟩ := ⟨by rfl, ⟨_, by rfl, rfl, rfl, rfl⟩, (fun _ h => by cases h), by decide⟩
theorem ok155 : okTI Go.Proofs.Tryd.prog 155 ⟨.map 9 3, 1, 8, .map none, none⟩ := ⟨by rfl, ⟨_, by rfl, rfl, rfl, rfl⟩, (fun _ h => by cases h), by decide⟩
theorem ok163 : okTI Go.Proofs.Tryd.prog 163 ⟨.pointer 203, 1, 8, .pointer none, none⟩ := ⟨by rfl, ⟨_, by rfl, rfl, rfl, rfl⟩, (fun _ h => by cases h), by decide⟩
theorem ok168 : okTI Go.Proofs.Tryd.prog 168 ⟨D168, 3, 40, .agg #[.int .i64 0, .string ByteArray.empty, .string ByteArray.empty], none⟩ := ⟨by rfl, ⟨_, by rfl, rfl, rfl, rfl⟩, (fun _ h => by cases h), by decide⟩
theorem ok172 : okTI Go.Proofs.Tryd.prog 172 ⟨.slice 175, 1, 24, .slice none 0 0, none⟩ := ⟨by rfl, ⟨_, by rfl, rfl, rfl, rfl⟩, (fun _ h => by cases h), by decide⟩
theorem ok175 : okTI Go.Proofs.Tryd.prog 175 ⟨D175, 4, 64, .agg #[.bool false, .int .i64 0, .slice none 0 0, .slice none 0 0], none⟩ := ⟨by rfl, ⟨_, by rfl, rfl, rfl, rfl⟩, (fun _ h => by cases h), by decide⟩
theorem ok187 : okTI Go.Proofs.Tryd.prog 187 ⟨.slice 23, 1, 24, .slice none 0 0, none⟩ := ⟨by rfl, ⟨_, by rfl, rfl, rfl, rfl⟩, (fun _ h => by cases h), by decide⟩
theorem ok194 : okTI Go.Proofs.Tryd.prog 194 ⟨.slice 5, 1, 24, .slice none 0 0, none⟩ := ⟨by rfl, ⟨_, by rfl, rfl, rfl, rfl⟩, (fun _ h => by cases h), by decide⟩
theorem ok203 : okTI Go.Proofs.Tryd.prog 203 ⟨D203, 2, 32, .agg #[.slice none 0 0, .map none], none⟩ := ⟨by rfl, ⟨_, by rfl, rfl, rfl, rfl⟩, (fun _ h => by cases h), by decide⟩
theorem ok204 : okTI Go.Proofs.Tryd.prog 204 ⟨.slice 41, 1, 24, .slice none 0 0, none⟩ := ⟨by rfl, ⟨_, by rfl, rfl, rfl, rfl⟩, (fun _ h => by cases h), by decide⟩
theorem ok208 : okTI Go.Proofs.Tryd.prog 208 ⟨.slice 2, 1, 24, .slice none 0 0, none⟩ := ⟨by rfl, ⟨_, by rfl, rfl, rfl, rfl⟩, (fun _ h => by cases h), by decide⟩
theorem ok217 : okTI Go.Proofs.Tryd.prog 217 ⟨.int .u64, 1, 8, .int .u64 0, none⟩ := ⟨by rfl, ⟨_, by rfl, rfl, rfl, rfl⟩, (fun _ h => by cases h), by decide⟩
theorem ok220 : okTI Go.Proofs.Tryd.prog 220 ⟨.int .u64, 1, 8, .int .u64 0, none⟩ := ⟨by rfl, ⟨_, by rfl, rfl, rfl, rfl⟩, (fun _ h => by cases h), by decide⟩
theorem ok227 : okTI Go.Proofs.Tryd.prog 227 ⟨.array 24 5, 24, 24, .agg #[.int .u8 0, .int .u8 0, .int .u8 0, .int .u8 0, .int .u8 0, .int .u8 0, .int .u8 0, .int .u8 0, .int .u8 0, .int .u8 0, .int .u8 0, .int .u8 0, .int .u8 0, .int .u8 0, .int .u8 0, .int .u8 0, .int .u8 0, .int .u8 0, .int .u8 0, .int .u8 0, .int .u8 0, .int .u8 0, .int .u8 0, .int .u8 0], none⟩ := ⟨by rfl, ⟨_, by rfl, rfl, rfl, rfl⟩, (fun _ h => by cases h), by decide⟩
theorem ok234 : okTI Go.Proofs.Tryd.prog 234 ⟨.array 20 217, 20, 160, .agg #[.int .u64 0, .int .u64 0, .int .u64 0, .int .u64 0, .int .u64 0, .int .u64 0, .int .u64 0, .int .u64 0, .int .u64 0, .int .u64 0, .int .u64 0, .int .u64 0, .int .u64 0, .int .u64 0, .int .u64 0, .int .u64 0, .int .u64 0, .int .u64 0, .int .u64 0, .int .u64 0], none⟩ := ⟨by rfl, ⟨_, by rfl, rfl, rfl, rfl⟩, (fun _ h => by cases h), by decide⟩
theorem ok235 : okTI Go.Proofs.Tryd.prog 235 ⟨.int .u32, 1, 4, .int .u32 0, none⟩ := ⟨by rfl, ⟨_, by rfl, rfl, rfl, rfl⟩, (fun _ h => by cases h), by decide⟩
theorem ok236 : okTI Go.Proofs.Tryd.prog 236 ⟨.array 65 5, 65, 65, .agg #[.int .u8 0, .int .u8 0, .int .u8 0, .int .u8 0, .int .u8 0, .int .u8 0, .int .u8 0, .int .u8 0, .int .u8 0, .int .u8 0, .int .u8 0, .int .u8 0, .int .u8 0, .int .u8 0, .int .u8 0, .int .u8 0, .int .u8 0, .int .u8 0, .int .u8 0, .int .u8 0, .int .u8 0, .int .u8 0, .int .u8 0, .int .u8 0, .int .u8 0, .int .u8 0, .int .u8 0, .int .u8 0, .int .u8 0, .int .u8 0, .int .u8 0, .int .u8 0, .int .u8 0, .int .u8 0, .int .u8 0, .int .u8 0, .int .u8 0, .int .u8 0, .int .u8 0, .int .u8 0, .int .u8 0, .int .u8 0, .int .u8 0, .int .u8 0, .int .u8 0, .int .u8 0, .int .u8 0, .int .u8 0, .int .u8 0, .int .u8 0, .int .u8 0, .int .u8 0, .int .u8 0, .int .u8 0, .int .u8 0, .int .u8 0, .int .u8 0, .int .u8 0, .int .u8 0, .int .u8 0, .int .u8 0, .int .u8 0, .int .u8 0, .int .u8 0, .int .u8 0], none⟩ := ⟨by rfl, ⟨_, by rfl, rfl, rfl, rfl⟩, (fun _ h => by cases h), by decide⟩
theorem ok239 : okTI Go.Proofs.Tryd.prog 239 ⟨.array 32 5, 32, 32, .agg #[.int .u8 0, .int .u8 0, .int .u8 0, .int .u8 0, .int .u8 0, .int .u8 0, .int .u8 0, .int .u8 0, .int .u8 0, .int .u8 0, .int .u8 0, .int .u8 0, .int .u8 0, .int .u8 0, .int .u8 0, .int .u8 0, .int .u8 0, .int .u8 0, .int .u8 0, .int .u8 0, .int .u8 0, .int .u8 0, .int .u8 0, .int .u8 0, .int .u8 0, .int .u8 0, .int .u8 0, .int .u8 0, .int .u8 0, .int .u8 0, .int .u8 0, .int .u8 0], none⟩ := ⟨by rfl, ⟨_, by rfl, rfl, rfl, rfl⟩, (fun _ h => by cases h), by decide⟩
theorem ok240 : okTI Go.Proofs.Tryd.prog 240 ⟨.array 64 5, 64, 64, .agg #[.int .u8 0, .int .u8 0, .int .u8 0, .int .u8 0, .int .u8 0, .int .u8 0, .int .u8 0, .int .u8 0, .int .u8 0, .int .u8 0, .int .u8 0, .int .u8 0, .int .u8 0, .int .u8 0, .int .u8 0, .int .u8 0, .int .u8 0, .int .u8 0, .int .u8 0, .int .u8 0, .int .u8 0, .int .u8 0, .int .u8 0, .int .u8 0, .int .u8 0, .int .u8 0, .int .u8 0, .int .u8 0, .int .u8 0, .int .u8 0, .int .u8 0, .int .u8 0, .int .u8 0, .int .u8 0, .int .u8 0, .int .u8 0, .int .u8 0, .int .u8 0, .int .u8 0, .int .u8 0, .int .u8 0, .int .u8 0, .int .u8 0, .int .u8 0, .int .u8 0, .int .u8 0, .int .u8 0, .int .u8 0, .int .u8 0, .int .u8 0, .int .u8 0, .int .u8 0, .int .u8 0, .int .u8 0, .int .u8 0, .int .u8 0, .int .u8 0, .int .u8 0, .int .u8 0, .int .u8 0, .int .u8 0, .int .u8 0, .int .u8 0, .int .u8 0], none⟩ := ⟨by rfl, ⟨_, by rfl, rfl, rfl, rfl⟩, (fun _ h => by cases h), by decide⟩
theorem okAll : okT Go.Proofs.Tryd.prog T := by
  intro t i h
  unfold T at h
  split at h
  · injection h with h; subst h; exact ok2
  · injection h with h; subst h; exact ok3
  · injection h with h; subst h; exact ok4
  · injection h with h; subst h; exact ok5
  · injection h with h; subst h; exact ok9
  · injection h with h; subst h; exact ok22
  · injection h with h; subst h; exact ok23
  · injection h with h; subst h; exact ok25
  · injection h with h; subst h; exact ok26
  · injection h with h; subst h; exact ok28
  · injection h with h; subst h; exact ok31
  · injection h with h; subst h; exact ok36
  · injection h with h; subst h; exact ok37
  · injection h with h; subst h; exact ok39
  · injection h with h; subst h; exact ok41
  · injection h with h; subst h; exact ok47
  · injection h with h; subst h; exact ok51
  · injection h with h; subst h; exact ok53
  · injection h with h; subst h; exact ok55
  · injection h with h; subst h; exact ok57
  · injection h with h; subst h; exact ok61
  · injection h with h; subst h; exact ok72
  · injection h with h; subst h; exact ok74
  · injection h with h; subst h; exact ok82
  · injection h with h; subst h; exact ok84
  · injection h with h; subst h; exact ok90
  · injection h with h; subst h; exact ok101
  · injection h with h; subst h; exact ok103
  · injection h with h; subst h; exact ok105
  · injection h with h; subst h; exact ok106
  · injection h with h; subst h; exact ok111
  · injection h with h; subst h; exact ok113
  · injection h with h; subst h; exact ok117
  · injection h with h; subst h; exact ok123
  · injection h with h; subst h; exact ok126
  · injection h with h; subst h; exact ok131
  · injection h with h; subst h; exact ok134
  · injection h with h; subst h; exact ok137
  · injection h with h; subst h; exact ok139
  · injection h with h; subst h; exact ok143
  · injection h with h; subst h; exact ok154
  · injection h with h; subst h; exact ok155
  · injection h with h; subst h; exact ok163
  · injection h with h; subst h; exact ok168
  · injection h with h; subst h; exact ok172
  · injection h with h; subst h; exact ok175
  · injection h with h; subst h; exact ok187
  · injection h with h; subst h; exact ok194
  · injection h with h; subst h; exact ok203
  · injection h with h; subst h; exact ok204
  · injection h with h; subst h; exact ok208
  · injection h with h; subst h; exact ok217
  · injection h with h; subst h; exact ok220
  · injection h with h; subst h; exact ok227
  · injection h with h; subst h; exact ok234
  · injection h with h; subst h; exact ok235
  · injection h with h; subst h; exact ok236
  · injection h with h; subst h; exact ok239
  · injection h with h; subst h; exact ok240
  · cases h
theorem Z0 : nilsOf T 4 0 = [] := rfl
theorem Z1 : nilsOf T 4 1 = [] := rfl
theorem Z6 : nilsOf T 4 6 = [] := rfl
theorem Z7 : nilsOf T 4 7 = [] := rfl
theorem Z8 : nilsOf T 4 8 = [] := rfl
theorem Z10 : nilsOf T 4 10 = [] := rfl
theorem Z11 : nilsOf T 4 11 = [] := rfl
theorem Z12 : nilsOf T 4 12 = [] := rfl
theorem Z13 : nilsOf T 4 13 = [] := rfl
theorem Z14 : nilsOf T 4 14 = [] := rfl
theorem Z15 : nilsOf T 4 15 = [] := rfl
theorem Z16 : nilsOf T 4 16 = [] := rfl
theorem Z17 : nilsOf T 4 17 = [] := rfl
theorem Z18 : nilsOf T 4 18 = [] := rfl
theorem Z19 : nilsOf T 4 19 = [] := rfl
theorem Z20 : nilsOf T 4 20 = [] := rfl
theorem Z21 : nilsOf T 4 21 = [] := rfl
theorem Z24 : nilsOf T 4 24 = [] := rfl
theorem Z27 : nilsOf T 4 27 = [] := rfl
theorem Z29 : nilsOf T 4 29 = [] := rfl
theorem Z30 : nilsOf T 4 30 = [] := rfl
theorem Z32 : nilsOf T 4 32 = [] := rfl
theorem Z33 : nilsOf T 4 33 = [] := rfl
theorem Z34 : nilsOf T 4 34 = [] := rfl
theorem Z35 : nilsOf T 4 35 = [] := rfl
theorem Z38 : nilsOf T 4 38 = [] := rfl
theorem Z40 : nilsOf T 4 40 = [] := rfl
theorem Z42 : nilsOf T 4 42 = [] := rfl
theorem Z43 : nilsOf T 4 43 = [] := rfl
theorem Z44 : nilsOf T 4 44 = [] := rfl
theorem Z45 : nilsOf T 4 45 = [] := rfl
theorem Z46 : nilsOf T 4 46 = [] := rfl
theorem Z48 : nilsOf T 4 48 = [] := rfl
theorem Z49 : nilsOf T 4 49 = [] := rfl
theorem Z50 : nilsOf T 4 50 = [] := rfl
theorem Z52 : nilsOf T 4 52 = [] := rfl
theorem Z54 : nilsOf T 4 54 = [] := rfl
theorem Z56 : nilsOf T 4 56 = [] := rfl
theorem Z58 : nilsOf T 4 58 = [] := rfl
theorem Z59 : nilsOf T 4 59 = [] := rfl
theorem Z60 : nilsOf T 4 60 = [] := rfl
theorem Z62 : nilsOf T 4 62 = [] := rfl
theorem Z63 : nilsOf T 4 63 = [] := rfl
theorem Z64 : nilsOf T 4 64 = [] := rfl
theorem Z65 : nilsOf T 4 65 = [] := rfl
theorem Z66 : nilsOf T 4 66 = [] := rfl
theorem Z67 : nilsOf T 4 67 = [] := rfl
theorem Z68 : nilsOf T 4 68 = [] := rfl
theorem Z69 : nilsOf T 4 69 = [] := rfl
theorem Z70 : nilsOf T 4 70 = [] := rfl
theorem Z71 : nilsOf T 4 71 = [] := rfl
theorem Z73 : nilsOf T 4 73 = [] := rfl
theorem Z75 : nilsOf T 4 75 = [] := rfl
theorem Z76 : nilsOf T 4 76 = [] := rfl
theorem Z77 : nilsOf T 4 77 = [] := rfl
theorem Z78 : nilsOf T 4 78 = [] := rfl
theorem Z79 : nilsOf T 4 79 = [] := rfl
theorem Z80 : nilsOf T 4 80 = [] := rfl
theorem Z81 : nilsOf T 4 81 = [] := rfl
theorem Z83 : nilsOf T 4 83 = [] := rfl
theorem Z85 : nilsOf T 4 85 = [] := rfl
theorem Z86 : nilsOf T 4 86 = [] := rfl
theorem Z87 : nilsOf T 4 87 = [] := rfl
theorem Z88 : nilsOf T 4 88 = [] := rfl
theorem Z89 : nilsOf T 4 89 = [] := rfl
theorem Z91 : nilsOf T 4 91 = [] := rfl
theorem Z92 : nilsOf T 4 92 = [] := rfl
theorem Z93 : nilsOf T 4 93 = [] := rfl
theorem Z94 : nilsOf T 4 94 = [] := rfl
theorem Z95 : nilsOf T 4 95 = [] := rfl
theorem Z96 : nilsOf T 4 96 = [] := rfl
theorem Z97 : nilsOf T 4 97 = [] := rfl
theorem Z98 : nilsOf T 4 98 = [] := rfl
theorem Z99 : nilsOf T 4 99 = [] := rfl
theorem Z100 : nilsOf T 4 100 = [] := rfl
theorem Z102 : nilsOf T 4 102 = [] := rfl
theorem Z104 : nilsOf T 4 104 = [] := rfl
theorem Z107 : nilsOf T 4 107 = [] := rfl
theorem Z108 : nilsOf T 4 108 = [] := rfl
theorem Z109 : nilsOf T 4 109 = [] := rfl
theorem Z110 : nilsOf T 4 110 = [] := rfl
theorem Z112 : nilsOf T 4 112 = [] := rfl
theorem Z114 : nilsOf T 4 114 = [] := rfl
theorem Z115 : nilsOf T 4 115 = [] := rfl
theorem Z116 : nilsOf T 4 116 = [] := rfl
theorem Z118 : nilsOf T 4 118 = [] := rfl
theorem Z119 : nilsOf T 4 119 = [] := rfl
theorem Z120 : nilsOf T 4 120 = [] := rfl
theorem Z121 : nilsOf T 4 121 = [] := rfl
theorem Z122 : nilsOf T 4 122 = [] := rfl
theorem Z124 : nilsOf T 4 124 = [] := rfl
theorem Z125 : nilsOf T 4 125 = [] := rfl
theorem Z127 : nilsOf T 4 127 = [] := rfl
theorem Z128 : nilsOf T 4 128 = [] := rfl
theorem Z129 : nilsOf T 4 129 = [] := rfl
theorem Z130 : nilsOf T 4 130 = [] := rfl
theorem Z132 : nilsOf T 4 132 = [] := rfl
theorem Z133 : nilsOf T 4 133 = [] := rfl
theorem Z135 : nilsOf T 4 135 = [] := rfl
theorem Z136 : nilsOf T 4 136 = [] := rfl
theorem Z138 : nilsOf T 4 138 = [] := rfl
theorem Z140 : nilsOf T 4 140 = [] := rfl
theorem Z141 : nilsOf T 4 141 = [] := rfl
theorem Z142 : nilsOf T 4 142 = [] := rfl
theorem Z144 : nilsOf T 4 144 = [] := rfl
theorem Z145 : nilsOf T 4 145 = [] := rfl
theorem Z146 : nilsOf T 4 146 = [] := rfl
theorem Z147 : nilsOf T 4 147 = [] := rfl
theorem Z148 : nilsOf T 4 148 = [] := rfl
theorem Z149 : nilsOf T 4 149 = [] := rfl
theorem Z150 : nilsOf T 4 150 = [] := rfl
theorem Z151 : nilsOf T 4 151 = [] := rfl
theorem Z152 : nilsOf T 4 152 = [] := rfl
theorem Z153 : nilsOf T 4 153 = [] := rfl
theorem Z156 : nilsOf T 4 156 = [] := rfl
theorem Z157 : nilsOf T 4 157 = [] := rfl
theorem Z158 : nilsOf T 4 158 = [] := rfl
theorem Z159 : nilsOf T 4 159 = [] := rfl
theorem Z160 : nilsOf T 4 160 = [] := rfl
theorem Z161 : nilsOf T 4 161 = [] := rfl
theorem Z162 : nilsOf T 4 162 = [] := rfl
theorem Z164 : nilsOf T 4 164 = [] := rfl
theorem Z165 : nilsOf T 4 165 = [] := rfl
theorem Z166 : nilsOf T 4 166 = [] := rfl
theorem Z167 : nilsOf T 4 167 = [] := rfl
theorem Z169 : nilsOf T 4 169 = [] := rfl
theorem Z170 : nilsOf T 4 170 = [] := rfl
theorem Z171 : nilsOf T 4 171 = [] := rfl
theorem Z173 : nilsOf T 4 173 = [] := rfl
theorem Z174 : nilsOf T 4 174 = [] := rfl
theorem Z176 : nilsOf T 4 176 = [] := rfl
theorem Z177 : nilsOf T 4 177 = [] := rfl
theorem Z178 : nilsOf T 4 178 = [] := rfl
theorem Z179 : nilsOf T 4 179 = [] := rfl
theorem Z180 : nilsOf T 4 180 = [] := rfl
theorem Z181 : nilsOf T 4 181 = [] := rfl
theorem Z182 : nilsOf T 4 182 = [] := rfl
theorem Z183 : nilsOf T 4 183 = [] := rfl
theorem Z184 : nilsOf T 4 184 = [] := rfl
theorem Z185 : nilsOf T 4 185 = [] := rfl
theorem Z186 : nilsOf T 4 186 = [] := rfl
theorem Z188 : nilsOf T 4 188 = [] := rfl
theorem Z189 : nilsOf T 4 189 = [] := rfl
theorem Z190 : nilsOf T 4 190 = [] := rfl
theorem Z191 : nilsOf T 4 191 = [] := rfl
theorem Z192 : nilsOf T 4 192 = [] := rfl
theorem Z193 : nilsOf T 4 193 = [] := rfl
theorem Z195 : nilsOf T 4 195 = [] := rfl
theorem Z196 : nilsOf T 4 196 = [] := rfl
theorem Z197 : nilsOf T 4 197 = [] := rfl
theorem Z198 : nilsOf T 4 198 = [] := rfl
theorem Z199 : nilsOf T 4 199 = [] := rfl
theorem Z200 : nilsOf T 4 200 = [] := rfl
theorem Z201 : nilsOf T 4 201 = [] := rfl
theorem Z202 : nilsOf T 4 202 = [] := rfl
theorem Z205 : nilsOf T 4 205 = [] := rfl
theorem Z206 : nilsOf T 4 206 = [] := rfl
theorem Z207 : nilsOf T 4 207 = [] := rfl
theorem Z209 : nilsOf T 4 209 = [] := rfl
theorem Z210 : nilsOf T 4 210 = [] := rfl
theorem Z211 : nilsOf T 4 211 = [] := rfl
theorem Z212 : nilsOf T 4 212 = [] := rfl
theorem Z213 : nilsOf T 4 213 = [] := rfl
theorem Z214 : nilsOf T 4 214 = [] := rfl
theorem Z215 : nilsOf T 4 215 = [] := rfl
theorem Z216 : nilsOf T 4 216 = [] := rfl
theorem Z218 : nilsOf T 4 218 = [] := rfl
theorem Z219 : nilsOf T 4 219 = [] := rfl
theorem Z221 : nilsOf T 4 221 = [] := rfl
theorem Z222 : nilsOf T 4 222 = [] := rfl
theorem Z223 : nilsOf T 4 223 = [] := rfl
theorem Z224 : nilsOf T 4 224 = [] := rfl
theorem Z225 : nilsOf T 4 225 = [] := rfl
theorem Z226 : nilsOf T 4 226 = [] := rfl
theorem Z228 : nilsOf T 4 228 = [] := rfl
theorem Z229 : nilsOf T 4 229 = [] := rfl
theorem Z230 : nilsOf T 4 230 = [] := rfl
theorem Z231 : nilsOf T 4 231 = [] := rfl
theorem Z232 : nilsOf T 4 232 = [] := rfl
theorem Z233 : nilsOf T 4 233 = [] := rfl
theorem Z237 : nilsOf T 4 237 = [] := rfl
theorem Z238 : nilsOf T 4 238 = [] := rfl
theorem Z241 : nilsOf T 4 241 = [] := rfl
theorem Z242 : nilsOf T 4 242 = [] := rfl
theorem Z243 : nilsOf T 4 243 = [] := rfl
theorem Z244 : nilsOf T 4 244 = [] := rfl
theorem Z245 : nilsOf T 4 245 = [] := rfl
theorem Z246 : nilsOf T 4 246 = [] := rfl
theorem Z247 : nilsOf T 4 247 = [] := rfl
theorem Z248 : nilsOf T 4 248 = [] := rfl
theorem Z249 : nilsOf T 4 249 = [] := rfl
theorem Z250 : nilsOf T 4 250 = [] := rfl
theorem Z251 : nilsOf T 4 251 = [] := rfl
theorem Z252 : nilsOf T 4 252 = [] := rfl
theorem Z253 : nilsOf T 4 253 = [] := rfl
theorem Z254 : nilsOf T 4 254 = [] := rfl
theorem Z255 : nilsOf T 4 255 = [] := rfl
theorem Z256 : nilsOf T 4 256 = [] := rfl
attribute [push_cast] T2 Z2 T3 Z3 T4 Z4 T5 Z5 T9 Z9 T22 Z22 T23 Z23 T25 Z25 T26 Z26 T28 Z28 T31 Z31 T36 Z36 T37 Z37 T39 Z39 T41 Z41 T47 Z47 T51 Z51 T53 Z53 T55 Z55 T57 Z57 T61 Z61 T72 Z72 T74 Z74 T82 Z82 T84 Z84 T90 Z90 T101 Z101 T103 Z103 T105 Z105 T106 Z106 T111 Z111 T113 Z113 T117 Z117 T123 Z123 T126 Z126 T131 Z131 T134 Z134 T137 Z137 T139 Z139 T143 Z143 T154 Z154 T155 Z155 T163 Z163 T168 Z168 T172 Z172 T175 Z175 T187 Z187 T194 Z194 T203 Z203 T204 Z204 T208 Z208 T217 Z217 T220 Z220 T227 Z227 T234 Z234 T235 Z235 T236 Z236 T239 Z239 T240 Z240 Z0 Z1 Z6 Z7 Z8 Z10 Z11 Z12 Z13 Z14 Z15 Z16 Z17 Z18 Z19 Z20 Z21 Z24 Z27 Z29 Z30 Z32 Z33 Z34 Z35 Z38 Z40 Z42 Z43 Z44 Z45 Z46 Z48 Z49 Z50 Z52 Z54 Z56 Z58 Z59 Z60 Z62 Z63 Z64 Z65 Z66 Z67 Z68 Z69 Z70 Z71 Z73 Z75 Z76 Z77 Z78 Z79 Z80 Z81 Z83 Z85 Z86 Z87 Z88 Z89 Z91 Z92 Z93 Z94 Z95 Z96 Z97 Z98 Z99 Z100 Z102 Z104 Z107 Z108 Z109 Z110 Z112 Z114 Z115 Z116 Z118 Z119 Z120 Z121 Z122 Z124 Z125 Z127 Z128 Z129 Z130 Z132 Z133 Z135 Z136 Z138 Z140 Z141 Z142 Z144 Z145 Z146 Z147 Z148 Z149 Z150 Z151 Z152 Z153 Z156 Z157 Z158 Z159 Z160 Z161 Z162 Z164 Z165 Z166 Z167 Z169 Z170 Z171 Z173 Z174 Z176 Z177 Z178 Z179 Z180 Z181 Z182 Z183 Z184 Z185 Z186 Z188 Z189 Z190 Z191 Z192 Z193 Z195 Z196 Z197 Z198 Z199 Z200 Z201 Z202 Z205 Z206 Z207 Z209 Z210 Z211 Z212 Z213 Z214 Z215 Z216 Z218 Z219 Z221 Z222 Z223 Z224 Z225 Z226 Z228 Z229 Z230 Z231 Z232 Z233 Z237 Z238 Z241 Z242 Z243 Z244 Z245 Z246 Z247 Z248 Z249 Z250 Z251 Z252 Z253 Z254 Z255 Z256 D25_0 D25_1 D28_0 D28_1 D28_2 D39_0 D39_1 D57_0 D57_1 D57_2 D57_3 D74_0 D74_1 D74_2 D74_3 D84_0 D84_1 D84_2 D101_0 D101_1 D101_2 D103_0 D103_1 D103_2 D103_3 D105_0 D105_1 D105_2 D111_0 D111_1 D111_2 D123_0 D123_1 D123_2 D123_3 D131_0 D131_1 D131_2 D134_0 D134_1 D134_2 D137_0 D137_1 D139_0 D139_1 D168_0 D168_1 D168_2 D175_0 D175_1 D203_0 D203_1
end Go.LS.Tryd
