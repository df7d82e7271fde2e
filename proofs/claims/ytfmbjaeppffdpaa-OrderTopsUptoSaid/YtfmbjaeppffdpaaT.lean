/- The types of the seat Ytfmbjaeppffdpaa, as the walk knows them. Made by lstypes.py. -/
import Derived.Test.YtfmbjaeppffdpaaLSr
import Derived.Test.YtfmbjaeppffdpaaProg
namespace Go.LS.Try
open Go Go.LS
set_option maxRecDepth 1000000

abbrev D23 : TypeDesc := .struct #[{ name := "Kind", type := 3, offset := 0, embedded := false, tag := "", pkgPath := "", byteOffset := 0 }, { name := "S", type := 9, offset := 1, embedded := false, tag := "", pkgPath := "", byteOffset := 8 }, { name := "N", type := 2, offset := 2, embedded := false, tag := "", pkgPath := "", byteOffset := 24 }, { name := "B", type := 4, offset := 3, embedded := false, tag := "", pkgPath := "", byteOffset := 32 }]
abbrev D27 : TypeDesc := .struct #[{ name := "Op", type := 3, offset := 0, embedded := false, tag := "", pkgPath := "", byteOffset := 0 }, { name := "Col", type := 9, offset := 1, embedded := false, tag := "", pkgPath := "", byteOffset := 8 }, { name := "V", type := 23, offset := 2, embedded := false, tag := "", pkgPath := "", byteOffset := 24 }, { name := "List", type := 24, offset := 6, embedded := false, tag := "", pkgPath := "", byteOffset := 64 }, { name := "Kids", type := 25, offset := 7, embedded := false, tag := "", pkgPath := "", byteOffset := 88 }]
abbrev D36 : TypeDesc := .struct #[{ name := "Kind", type := 3, offset := 0, embedded := false, tag := "", pkgPath := "", byteOffset := 0 }, { name := "S", type := 9, offset := 1, embedded := false, tag := "", pkgPath := "", byteOffset := 8 }, { name := "N", type := 2, offset := 2, embedded := false, tag := "", pkgPath := "", byteOffset := 24 }, { name := "B", type := 3, offset := 3, embedded := false, tag := "", pkgPath := "", byteOffset := 32 }]
abbrev D40 : TypeDesc := .struct #[{ name := "Op", type := 3, offset := 0, embedded := false, tag := "", pkgPath := "", byteOffset := 0 }, { name := "Col", type := 9, offset := 1, embedded := false, tag := "", pkgPath := "", byteOffset := 8 }, { name := "V", type := 36, offset := 2, embedded := false, tag := "", pkgPath := "", byteOffset := 24 }, { name := "List", type := 37, offset := 6, embedded := false, tag := "", pkgPath := "", byteOffset := 64 }, { name := "Kids", type := 38, offset := 7, embedded := false, tag := "", pkgPath := "", byteOffset := 88 }]
abbrev D64 : TypeDesc := .struct #[{ name := "K", type := 62, offset := 0, embedded := false, tag := "", pkgPath := "", byteOffset := 0 }, { name := "L", type := 28, offset := 1, embedded := false, tag := "", pkgPath := "", byteOffset := 24 }, { name := "Rows", type := 46, offset := 2, embedded := false, tag := "", pkgPath := "", byteOffset := 48 }]
abbrev D86 : TypeDesc := .struct #[{ name := "Name", type := 9, offset := 0, embedded := false, tag := "", pkgPath := "", byteOffset := 0 }, { name := "Kind", type := 3, offset := 1, embedded := false, tag := "", pkgPath := "", byteOffset := 16 }, { name := "Null", type := 4, offset := 2, embedded := false, tag := "", pkgPath := "", byteOffset := 24 }]
abbrev D92 : TypeDesc := .struct #[{ name := "Name", type := 9, offset := 0, embedded := false, tag := "", pkgPath := "", byteOffset := 0 }, { name := "Kind", type := 3, offset := 1, embedded := false, tag := "", pkgPath := "", byteOffset := 16 }, { name := "Null", type := 3, offset := 2, embedded := false, tag := "", pkgPath := "", byteOffset := 24 }]
abbrev D103 : TypeDesc := .struct #[{ name := "Col", type := 9, offset := 0, embedded := false, tag := "", pkgPath := "", byteOffset := 0 }, { name := "Down", type := 4, offset := 1, embedded := false, tag := "", pkgPath := "", byteOffset := 16 }]
abbrev D108 : TypeDesc := .struct #[{ name := "Col", type := 9, offset := 0, embedded := false, tag := "", pkgPath := "", byteOffset := 0 }, { name := "Down", type := 3, offset := 1, embedded := false, tag := "", pkgPath := "", byteOffset := 16 }]
abbrev D129 : TypeDesc := .struct #[{ name := "at", type := 3, offset := 0, embedded := false, tag := "", pkgPath := "quillpen/order", byteOffset := 0 }, { name := "down", type := 4, offset := 1, embedded := false, tag := "", pkgPath := "quillpen/order", byteOffset := 8 }]
def T : Tab
  | 2 => some ⟨.int .i64, 1, 8, .int .i64 0, none⟩
  | 3 => some ⟨.int .i64, 1, 8, .int .i64 0, none⟩
  | 4 => some ⟨.bool, 1, 1, .bool false, none⟩
  | 5 => some ⟨.int .u8, 1, 1, .int .u8 0, none⟩
  | 9 => some ⟨.string, 1, 16, .string ByteArray.empty, none⟩
  | 23 => some ⟨D23, 4, 40, .agg #[.int .i64 0, .string ByteArray.empty, .int .i64 0, .bool false], some [.int .i64, .string, .int .i64, .bool]⟩
  | 24 => some ⟨.slice 23, 1, 24, .slice none 0 0, none⟩
  | 25 => some ⟨.slice 27, 1, 24, .slice none 0 0, none⟩
  | 27 => some ⟨D27, 8, 112, .agg #[.int .i64 0, .string ByteArray.empty, .int .i64 0, .string ByteArray.empty, .int .i64 0, .bool false, .slice none 0 0, .slice none 0 0], none⟩
  | 28 => some ⟨.slice 86, 1, 24, .slice none 0 0, none⟩
  | 32 => some ⟨.int .i64, 1, 8, .int .i64 0, none⟩
  | 36 => some ⟨D36, 4, 40, .agg #[.int .i64 0, .string ByteArray.empty, .int .i64 0, .int .i64 0], some [.int .i64, .string, .int .i64, .int .i64]⟩
  | 37 => some ⟨.slice 36, 1, 24, .slice none 0 0, none⟩
  | 38 => some ⟨.slice 40, 1, 24, .slice none 0 0, none⟩
  | 40 => some ⟨D40, 8, 112, .agg #[.int .i64 0, .string ByteArray.empty, .int .i64 0, .string ByteArray.empty, .int .i64 0, .int .i64 0, .slice none 0 0, .slice none 0 0], none⟩
  | 42 => some ⟨.slice 92, 1, 24, .slice none 0 0, none⟩
  | 46 => some ⟨.slice 24, 1, 24, .slice none 0 0, none⟩
  | 56 => some ⟨.slice 37, 1, 24, .slice none 0 0, none⟩
  | 62 => some ⟨.slice 103, 1, 24, .slice none 0 0, none⟩
  | 64 => some ⟨D64, 3, 72, .agg #[.slice none 0 0, .slice none 0 0, .slice none 0 0], none⟩
  | 70 => some ⟨.slice 108, 1, 24, .slice none 0 0, none⟩
  | 86 => some ⟨D86, 3, 32, .agg #[.string ByteArray.empty, .int .i64 0, .bool false], none⟩
  | 92 => some ⟨D92, 3, 32, .agg #[.string ByteArray.empty, .int .i64 0, .int .i64 0], none⟩
  | 95 => some ⟨.slice 9, 1, 24, .slice none 0 0, none⟩
  | 103 => some ⟨D103, 2, 24, .agg #[.string ByteArray.empty, .bool false], none⟩
  | 104 => some ⟨.map 9 4, 1, 8, .map none, none⟩
  | 108 => some ⟨D108, 2, 24, .agg #[.string ByteArray.empty, .int .i64 0], none⟩
  | 109 => some ⟨.slice 129, 1, 24, .slice none 0 0, none⟩
  | 116 => some ⟨.slice 3, 1, 24, .slice none 0 0, none⟩
  | 119 => some ⟨.slice 4, 1, 24, .slice none 0 0, none⟩
  | 127 => some ⟨.slice 46, 1, 24, .slice none 0 0, none⟩
  | 129 => some ⟨D129, 2, 16, .agg #[.int .i64 0, .bool false], none⟩
  | 147 => some ⟨.slice 5, 1, 24, .slice none 0 0, none⟩
  | 148 => some ⟨.int .u64, 1, 8, .int .u64 0, none⟩
  | _ => none
theorem T2 : T 2 = some ⟨.int .i64, 1, 8, .int .i64 0, none⟩ := rfl
theorem Z2 : nilsOf T 4 2 = [none] := rfl
theorem T3 : T 3 = some ⟨.int .i64, 1, 8, .int .i64 0, none⟩ := rfl
theorem Z3 : nilsOf T 4 3 = [none] := rfl
theorem T4 : T 4 = some ⟨.bool, 1, 1, .bool false, none⟩ := rfl
theorem Z4 : nilsOf T 4 4 = [none] := rfl
theorem T5 : T 5 = some ⟨.int .u8, 1, 1, .int .u8 0, none⟩ := rfl
theorem Z5 : nilsOf T 4 5 = [none] := rfl
theorem T9 : T 9 = some ⟨.string, 1, 16, .string ByteArray.empty, none⟩ := rfl
theorem Z9 : nilsOf T 4 9 = [none] := rfl
theorem T23 : T 23 = some ⟨D23, 4, 40, .agg #[.int .i64 0, .string ByteArray.empty, .int .i64 0, .bool false], some [.int .i64, .string, .int .i64, .bool]⟩ := rfl
theorem Z23 : nilsOf T 4 23 = [none, none, none, none] := rfl
theorem D23_0 : fOff D23 0 = some (0, 3) := rfl
theorem D23_1 : fOff D23 1 = some (1, 9) := rfl
theorem D23_2 : fOff D23 2 = some (2, 2) := rfl
theorem D23_3 : fOff D23 3 = some (3, 4) := rfl
theorem T24 : T 24 = some ⟨.slice 23, 1, 24, .slice none 0 0, none⟩ := rfl
theorem Z24 : nilsOf T 4 24 = [some 4] := rfl
theorem T25 : T 25 = some ⟨.slice 27, 1, 24, .slice none 0 0, none⟩ := rfl
theorem Z25 : nilsOf T 4 25 = [some 8] := rfl
theorem T27 : T 27 = some ⟨D27, 8, 112, .agg #[.int .i64 0, .string ByteArray.empty, .int .i64 0, .string ByteArray.empty, .int .i64 0, .bool false, .slice none 0 0, .slice none 0 0], none⟩ := rfl
theorem Z27 : nilsOf T 4 27 = [none, none, none, none, none, none, some 4, some 8] := rfl
theorem D27_0 : fOff D27 0 = some (0, 3) := rfl
theorem D27_1 : fOff D27 1 = some (1, 9) := rfl
theorem D27_2 : fOff D27 2 = some (2, 23) := rfl
theorem D27_3 : fOff D27 3 = some (6, 24) := rfl
theorem D27_4 : fOff D27 4 = some (7, 25) := rfl
theorem T28 : T 28 = some ⟨.slice 86, 1, 24, .slice none 0 0, none⟩ := rfl
theorem Z28 : nilsOf T 4 28 = [some 3] := rfl
theorem T32 : T 32 = some ⟨.int .i64, 1, 8, .int .i64 0, none⟩ := rfl
theorem Z32 : nilsOf T 4 32 = [none] := rfl
theorem T36 : T 36 = some ⟨D36, 4, 40, .agg #[.int .i64 0, .string ByteArray.empty, .int .i64 0, .int .i64 0], some [.int .i64, .string, .int .i64, .int .i64]⟩ := rfl
theorem Z36 : nilsOf T 4 36 = [none, none, none, none] := rfl
theorem D36_0 : fOff D36 0 = some (0, 3) := rfl
theorem D36_1 : fOff D36 1 = some (1, 9) := rfl
theorem D36_2 : fOff D36 2 = some (2, 2) := rfl
theorem D36_3 : fOff D36 3 = some (3, 3) := rfl
theorem T37 : T 37 = some ⟨.slice 36, 1, 24, .slice none 0 0, none⟩ := rfl
theorem Z37 : nilsOf T 4 37 = [some 4] := rfl
theorem T38 : T 38 = some ⟨.slice 40, 1, 24, .slice none 0 0, none⟩ := rfl
theorem Z38 : nilsOf T 4 38 = [some 8] := rfl
theorem T40 : T 40 = some ⟨D40, 8, 112, .agg #[.int .i64 0, .string ByteArray.empty, .int .i64 0, .string ByteArray.empty, .int .i64 0, .int .i64 0, .slice none 0 0, .slice none 0 0], none⟩ := rfl
theorem Z40 : nilsOf T 4 40 = [none, none, none, none, none, none, some 4, some 8] := rfl
theorem D40_0 : fOff D40 0 = some (0, 3) := rfl
theorem D40_1 : fOff D40 1 = some (1, 9) := rfl
theorem D40_2 : fOff D40 2 = some (2, 36) := rfl
theorem D40_3 : fOff D40 3 = some (6, 37) := rfl
theorem D40_4 : fOff D40 4 = some (7, 38) := rfl
theorem T42 : T 42 = some ⟨.slice 92, 1, 24, .slice none 0 0, none⟩ := rfl
theorem Z42 : nilsOf T 4 42 = [some 3] := rfl
theorem T46 : T 46 = some ⟨.slice 24, 1, 24, .slice none 0 0, none⟩ := rfl
theorem Z46 : nilsOf T 4 46 = [some 1] := rfl
theorem T56 : T 56 = some ⟨.slice 37, 1, 24, .slice none 0 0, none⟩ := rfl
theorem Z56 : nilsOf T 4 56 = [some 1] := rfl
theorem T62 : T 62 = some ⟨.slice 103, 1, 24, .slice none 0 0, none⟩ := rfl
theorem Z62 : nilsOf T 4 62 = [some 2] := rfl
theorem T64 : T 64 = some ⟨D64, 3, 72, .agg #[.slice none 0 0, .slice none 0 0, .slice none 0 0], none⟩ := rfl
theorem Z64 : nilsOf T 4 64 = [some 2, some 3, some 1] := rfl
theorem D64_0 : fOff D64 0 = some (0, 62) := rfl
theorem D64_1 : fOff D64 1 = some (1, 28) := rfl
theorem D64_2 : fOff D64 2 = some (2, 46) := rfl
theorem T70 : T 70 = some ⟨.slice 108, 1, 24, .slice none 0 0, none⟩ := rfl
theorem Z70 : nilsOf T 4 70 = [some 2] := rfl
theorem T86 : T 86 = some ⟨D86, 3, 32, .agg #[.string ByteArray.empty, .int .i64 0, .bool false], none⟩ := rfl
theorem Z86 : nilsOf T 4 86 = [none, none, none] := rfl
theorem D86_0 : fOff D86 0 = some (0, 9) := rfl
theorem D86_1 : fOff D86 1 = some (1, 3) := rfl
theorem D86_2 : fOff D86 2 = some (2, 4) := rfl
theorem T92 : T 92 = some ⟨D92, 3, 32, .agg #[.string ByteArray.empty, .int .i64 0, .int .i64 0], none⟩ := rfl
theorem Z92 : nilsOf T 4 92 = [none, none, none] := rfl
theorem D92_0 : fOff D92 0 = some (0, 9) := rfl
theorem D92_1 : fOff D92 1 = some (1, 3) := rfl
theorem D92_2 : fOff D92 2 = some (2, 3) := rfl
theorem T95 : T 95 = some ⟨.slice 9, 1, 24, .slice none 0 0, none⟩ := rfl
theorem Z95 : nilsOf T 4 95 = [some 1] := rfl
theorem T103 : T 103 = some ⟨D103, 2, 24, .agg #[.string ByteArray.empty, .bool false], none⟩ := rfl
theorem Z103 : nilsOf T 4 103 = [none, none] := rfl
theorem D103_0 : fOff D103 0 = some (0, 9) := rfl
theorem D103_1 : fOff D103 1 = some (1, 4) := rfl
theorem T104 : T 104 = some ⟨.map 9 4, 1, 8, .map none, none⟩ := rfl
theorem Z104 : nilsOf T 4 104 = [none] := rfl
theorem T108 : T 108 = some ⟨D108, 2, 24, .agg #[.string ByteArray.empty, .int .i64 0], none⟩ := rfl
theorem Z108 : nilsOf T 4 108 = [none, none] := rfl
theorem D108_0 : fOff D108 0 = some (0, 9) := rfl
theorem D108_1 : fOff D108 1 = some (1, 3) := rfl
theorem T109 : T 109 = some ⟨.slice 129, 1, 24, .slice none 0 0, none⟩ := rfl
theorem Z109 : nilsOf T 4 109 = [some 2] := rfl
theorem T116 : T 116 = some ⟨.slice 3, 1, 24, .slice none 0 0, none⟩ := rfl
theorem Z116 : nilsOf T 4 116 = [some 1] := rfl
theorem T119 : T 119 = some ⟨.slice 4, 1, 24, .slice none 0 0, none⟩ := rfl
theorem Z119 : nilsOf T 4 119 = [some 1] := rfl
theorem T127 : T 127 = some ⟨.slice 46, 1, 24, .slice none 0 0, none⟩ := rfl
theorem Z127 : nilsOf T 4 127 = [some 1] := rfl
theorem T129 : T 129 = some ⟨D129, 2, 16, .agg #[.int .i64 0, .bool false], none⟩ := rfl
theorem Z129 : nilsOf T 4 129 = [none, none] := rfl
theorem D129_0 : fOff D129 0 = some (0, 3) := rfl
theorem D129_1 : fOff D129 1 = some (1, 4) := rfl
theorem T147 : T 147 = some ⟨.slice 5, 1, 24, .slice none 0 0, none⟩ := rfl
theorem Z147 : nilsOf T 4 147 = [some 1] := rfl
theorem T148 : T 148 = some ⟨.int .u64, 1, 8, .int .u64 0, none⟩ := rfl
theorem Z148 : nilsOf T 4 148 = [none] := rfl
theorem ok2 : okTI Go.Proofs.Try.prog 2 ⟨.int .i64, 1, 8, .int .i64 0, none⟩ := ⟨by rfl, ⟨_, by rfl, rfl, rfl, rfl⟩, (fun _ h => by cases h), by decide⟩
theorem ok3 : okTI Go.Proofs.Try.prog 3 ⟨.int .i64, 1, 8, .int .i64 0, none⟩ := ⟨by rfl, ⟨_, by rfl, rfl, rfl, rfl⟩, (fun _ h => by cases h), by decide⟩
theorem ok4 : okTI Go.Proofs.Try.prog 4 ⟨.bool, 1, 1, .bool false, none⟩ := ⟨by rfl, ⟨_, by rfl, rfl, rfl, rfl⟩, (fun _ h => by cases h), by decide⟩
theorem ok5 : okTI Go.Proofs.Try.prog 5 ⟨.int .u8, 1, 1, .int .u8 0, none⟩ := ⟨by rfl, ⟨_, by rfl, rfl, rfl, rfl⟩, (fun _ h => by cases h), by decide⟩
theorem ok9 : okTI Go.Proofs.Try.prog 9 ⟨.string, 1, 16, .string ByteArray.empty, none⟩ := ⟨by rfl, ⟨_, by rfl, rfl, rfl, rfl⟩, (fun _ h => by cases h), by decide⟩
theorem ok23 : okTI Go.Proofs.Try.prog 23 ⟨D23, 4, 40, .agg #[.int .i64 0, .string ByteArray.empty, .int .i64 0, .bool false], some [.int .i64, .string, .int .i64, .bool]⟩ := ⟨by rfl, ⟨_, by rfl, rfl, rfl, rfl⟩, (fun _ h => by
    injection h with h; subst h
    refine ⟨Go.Proofs.Try.stoodInHeld23, Go.Proofs.Try.eqGuardType23, _, rfl, rfl, fun j f hj => ?_⟩
    match j, hj with
    | 0, hj => injection hj with hj; subst hj; exact ⟨rfl, by decide, by rfl⟩
    | 1, hj => injection hj with hj; subst hj; exact ⟨rfl, by decide, by rfl⟩
    | 2, hj => injection hj with hj; subst hj; exact ⟨rfl, by decide, by rfl⟩
    | 3, hj => injection hj with hj; subst hj; exact ⟨rfl, by decide, by rfl⟩
    | k + 4, hj => simp at hj), by decide⟩
theorem ok24 : okTI Go.Proofs.Try.prog 24 ⟨.slice 23, 1, 24, .slice none 0 0, none⟩ := ⟨by rfl, ⟨_, by rfl, rfl, rfl, rfl⟩, (fun _ h => by cases h), by decide⟩
theorem ok25 : okTI Go.Proofs.Try.prog 25 ⟨.slice 27, 1, 24, .slice none 0 0, none⟩ := ⟨by rfl, ⟨_, by rfl, rfl, rfl, rfl⟩, (fun _ h => by cases h), by decide⟩
theorem ok27 : okTI Go.Proofs.Try.prog 27 ⟨D27, 8, 112, .agg #[.int .i64 0, .string ByteArray.empty, .int .i64 0, .string ByteArray.empty, .int .i64 0, .bool false, .slice none 0 0, .slice none 0 0], none⟩ := ⟨by rfl, ⟨_, by rfl, rfl, rfl, rfl⟩, (fun _ h => by cases h), by decide⟩
theorem ok28 : okTI Go.Proofs.Try.prog 28 ⟨.slice 86, 1, 24, .slice none 0 0, none⟩ := ⟨by rfl, ⟨_, by rfl, rfl, rfl, rfl⟩, (fun _ h => by cases h), by decide⟩
theorem ok32 : okTI Go.Proofs.Try.prog 32 ⟨.int .i64, 1, 8, .int .i64 0, none⟩ := ⟨by rfl, ⟨_, by rfl, rfl, rfl, rfl⟩, (fun _ h => by cases h), by decide⟩
theorem ok36 : okTI Go.Proofs.Try.prog 36 ⟨D36, 4, 40, .agg #[.int .i64 0, .string ByteArray.empty, .int .i64 0, .int .i64 0], some [.int .i64, .string, .int .i64, .int .i64]⟩ := ⟨by rfl, ⟨_, by rfl, rfl, rfl, rfl⟩, (fun _ h => by
    injection h with h; subst h
    refine ⟨Go.Proofs.Try.stoodInHeld36, Go.Proofs.Try.eqGuardType36, _, rfl, rfl, fun j f hj => ?_⟩
    match j, hj with
    | 0, hj => injection hj with hj; subst hj; exact ⟨rfl, by decide, by rfl⟩
    | 1, hj => injection hj with hj; subst hj; exact ⟨rfl, by decide, by rfl⟩
    | 2, hj => injection hj with hj; subst hj; exact ⟨rfl, by decide, by rfl⟩
    | 3, hj => injection hj with hj; subst hj; exact ⟨rfl, by decide, by rfl⟩
    | k + 4, hj => simp at hj), by decide⟩
theorem ok37 : okTI Go.Proofs.Try.prog 37 ⟨.slice 36, 1, 24, .slice none 0 0, none⟩ := ⟨by rfl, ⟨_, by rfl, rfl, rfl, rfl⟩, (fun _ h => by cases h), by decide⟩
theorem ok38 : okTI Go.Proofs.Try.prog 38 ⟨.slice 40, 1, 24, .slice none 0 0, none⟩ := ⟨by rfl, ⟨_, by rfl, rfl, rfl, rfl⟩, (fun _ h => by cases h), by decide⟩
theorem ok40 : okTI Go.Proofs.Try.prog 40 ⟨D40, 8, 112, .agg #[.int .i64 0, .string ByteArray.empty, .int .i64 0, .string ByteArray.empty, .int .i64 0, .int .i64 0, .slice none 0 0, .slice none 0 0], none⟩ := ⟨by rfl, ⟨_, by rfl, rfl, rfl, rfl⟩, (fun _ h => by cases h), by decide⟩
theorem ok42 : okTI Go.Proofs.Try.prog 42 ⟨.slice 92, 1, 24, .slice none 0 0, none⟩ := ⟨by rfl, ⟨_, by rfl, rfl, rfl, rfl⟩, (fun _ h => by cases h), by decide⟩
theorem ok46 : okTI Go.Proofs.Try.prog 46 ⟨.slice 24, 1, 24, .slice none 0 0, none⟩ := ⟨by rfl, ⟨_, by rfl, rfl, rfl, rfl⟩, (fun _ h => by cases h), by decide⟩
theorem ok56 : okTI Go.Proofs.Try.prog 56 ⟨.slice 37, 1, 24, .slice none 0 0, none⟩ := ⟨by rfl, ⟨_, by rfl, rfl, rfl, rfl⟩, (fun _ h => by cases h), by decide⟩
theorem ok62 : okTI Go.Proofs.Try.prog 62 ⟨.slice 103, 1, 24, .slice none 0 0, none⟩ := ⟨by rfl, ⟨_, by rfl, rfl, rfl, rfl⟩, (fun _ h => by cases h), by decide⟩
theorem ok64 : okTI Go.Proofs.Try.prog 64 ⟨D64, 3, 72, .agg #[.slice none 0 0, .slice none 0 0, .slice none 0 0], none⟩ := ⟨by rfl, ⟨_, by rfl, rfl, rfl, rfl⟩, (fun _ h => by cases h), by decide⟩
theorem ok70 : okTI Go.Proofs.Try.prog 70 ⟨.slice 108, 1, 24, .slice none 0 0, none⟩ := ⟨by rfl, ⟨_, by rfl, rfl, rfl, rfl⟩, (fun _ h => by cases h), by decide⟩
theorem ok86 : okTI Go.Proofs.Try.prog 86 ⟨D86, 3, 32, .agg #[.string ByteArray.empty, .int .i64 0, .bool false], none⟩ := ⟨by rfl, ⟨_, by rfl, rfl, rfl, rfl⟩, (fun _ h => by cases h), by decide⟩
theorem ok92 : okTI Go.Proofs.Try.prog 92 ⟨D92, 3, 32, .agg #[.string ByteArray.empty, .int .i64 0, .int .i64 0], none⟩ := ⟨by rfl, ⟨_, by rfl, rfl, rfl, rfl⟩, (fun _ h => by cases h), by decide⟩
theorem ok95 : okTI Go.Proofs.Try.prog 95 ⟨.slice 9, 1, 24, .slice none 0 0, none⟩ := ⟨by rfl, ⟨_, by rfl, rfl, rfl, rfl⟩, (fun _ h => by cases h), by decide⟩
theorem ok103 : okTI Go.Proofs.Try.prog 103 ⟨D103, 2, 24, .agg #[.string ByteArray.empty, .bool false], none⟩ := ⟨by rfl, ⟨_, by rfl, rfl, rfl, rfl⟩, (fun _ h => by cases h), by decide⟩
theorem ok104 : okTI Go.Proofs.Try.prog 104 ⟨.map 9 4, 1, 8, .map none, none⟩ := ⟨by rfl, ⟨_, by rfl, rfl, rfl, rfl⟩, (fun _ h => by cases h), by decide⟩
theorem ok108 : okTI Go.Proofs.Try.prog 108 ⟨D108, 2, 24, .agg #[.string ByteArray.empty, .int .i64 0], none⟩ := ⟨by rfl, ⟨_, by rfl, rfl, rfl, rfl⟩, (fun _ h => by cases h), by decide⟩
theorem ok109 : okTI Go.Proofs.Try.prog 109 ⟨.slice 129, 1, 24, .slice none 0 0, none⟩ := ⟨by rfl, ⟨_, by rfl, rfl, rfl, rfl⟩, (fun _ h => by cases h), by decide⟩
theorem ok116 : okTI Go.Proofs.Try.prog 116 ⟨.slice 3, 1, 24, .slice none 0 0, none⟩ := ⟨by rfl, ⟨_, by rfl, rfl, rfl, rfl⟩, (fun _ h => by cases h), by decide⟩
theorem ok119 : okTI Go.Proofs.Try.prog 119 ⟨.slice 4, 1, 24, .slice none 0 0, none⟩ := ⟨by rfl, ⟨_, by rfl, rfl, rfl, rfl⟩, (fun _ h => by cases h), by decide⟩
theorem ok127 : okTI Go.Proofs.Try.prog 127 ⟨.slice 46, 1, 24, .slice none 0 0, none⟩ := ⟨by rfl, ⟨_, by rfl, rfl, rfl, rfl⟩, (fun _ h => by cases h), by decide⟩
theorem ok129 : okTI Go.Proofs.Try.prog 129 ⟨D129, 2, 16, .agg #[.int .i64 0, .bool false], none⟩ := ⟨by rfl, ⟨_, by rfl, rfl, rfl, rfl⟩, (fun _ h => by cases h), by decide⟩
theorem ok147 : okTI Go.Proofs.Try.prog 147 ⟨.slice 5, 1, 24, .slice none 0 0, none⟩ := ⟨by rfl, ⟨_, by rfl, rfl, rfl, rfl⟩, (fun _ h => by cases h), by decide⟩
theorem ok148 : okTI Go.Proofs.Try.prog 148 ⟨.int .u64, 1, 8, .int .u64 0, none⟩ := ⟨by rfl, ⟨_, by rfl, rfl, rfl, rfl⟩, (fun _ h => by cases h), by decide⟩
theorem okAll : okT Go.Proofs.Try.prog T := by
  intro t i h
  unfold T at h
  split at h
  · injection h with h; subst h; exact ok2
  · injection h with h; subst h; exact ok3
  · injection h with h; subst h; exact ok4
  · injection h with h; subst h; exact ok5
  · injection h with h; subst h; exact ok9
  · injection h with h; subst h; exact ok23
  · injection h with h; subst h; exact ok24
  · injection h with h; subst h; exact ok25
  · injection h with h; subst h; exact ok27
  · injection h with h; subst h; exact ok28
  · injection h with h; subst h; exact ok32
  · injection h with h; subst h; exact ok36
  · injection h with h; subst h; exact ok37
  · injection h with h; subst h; exact ok38
  · injection h with h; subst h; exact ok40
  · injection h with h; subst h; exact ok42
  · injection h with h; subst h; exact ok46
  · injection h with h; subst h; exact ok56
  · injection h with h; subst h; exact ok62
  · injection h with h; subst h; exact ok64
  · injection h with h; subst h; exact ok70
  · injection h with h; subst h; exact ok86
  · injection h with h; subst h; exact ok92
  · injection h with h; subst h; exact ok95
  · injection h with h; subst h; exact ok103
  · injection h with h; subst h; exact ok104
  · injection h with h; subst h; exact ok108
  · injection h with h; subst h; exact ok109
  · injection h with h; subst h; exact ok116
  · injection h with h; subst h; exact ok119
  · injection h with h; subst h; exact ok127
  · injection h with h; subst h; exact ok129
  · injection h with h; subst h; exact ok147
  · injection h with h; subst h; exact ok148
  · cases h
theorem Z0 : nilsOf T 4 0 = [] := rfl
theorem Z1 : nilsOf T 4 1 = [] := rfl
theorem Z6 : nilsOf T 4 6 = [] := rfl
theorem Z7 : nilsOf T 4 7 = [] := rfl
theorem Z8 : nilsOf T 4 8 = [] := rfl
theorem Z10 : nilsOf T 4 10 = [] := rfl
theorem Z11 : nilsOf T 4 11 = [] := rfl
theorem Z12 : nilsOf T 4 12 = [] := rfl
theorem Z13 : nilsOf T 4 13 = [] := rfl
theorem Z14 : nilsOf T 4 14 = [] := rfl
theorem Z15 : nilsOf T 4 15 = [] := rfl
theorem Z16 : nilsOf T 4 16 = [] := rfl
theorem Z17 : nilsOf T 4 17 = [] := rfl
theorem Z18 : nilsOf T 4 18 = [] := rfl
theorem Z19 : nilsOf T 4 19 = [] := rfl
theorem Z20 : nilsOf T 4 20 = [] := rfl
theorem Z21 : nilsOf T 4 21 = [] := rfl
theorem Z22 : nilsOf T 4 22 = [] := rfl
theorem Z26 : nilsOf T 4 26 = [] := rfl
theorem Z29 : nilsOf T 4 29 = [] := rfl
theorem Z30 : nilsOf T 4 30 = [] := rfl
theorem Z31 : nilsOf T 4 31 = [] := rfl
theorem Z33 : nilsOf T 4 33 = [] := rfl
theorem Z34 : nilsOf T 4 34 = [] := rfl
theorem Z35 : nilsOf T 4 35 = [] := rfl
theorem Z39 : nilsOf T 4 39 = [] := rfl
theorem Z41 : nilsOf T 4 41 = [] := rfl
theorem Z43 : nilsOf T 4 43 = [] := rfl
theorem Z44 : nilsOf T 4 44 = [] := rfl
theorem Z45 : nilsOf T 4 45 = [] := rfl
theorem Z47 : nilsOf T 4 47 = [] := rfl
theorem Z48 : nilsOf T 4 48 = [] := rfl
theorem Z49 : nilsOf T 4 49 = [] := rfl
theorem Z50 : nilsOf T 4 50 = [] := rfl
theorem Z51 : nilsOf T 4 51 = [] := rfl
theorem Z52 : nilsOf T 4 52 = [] := rfl
theorem Z53 : nilsOf T 4 53 = [] := rfl
theorem Z54 : nilsOf T 4 54 = [] := rfl
theorem Z55 : nilsOf T 4 55 = [] := rfl
theorem Z57 : nilsOf T 4 57 = [] := rfl
theorem Z58 : nilsOf T 4 58 = [] := rfl
theorem Z59 : nilsOf T 4 59 = [] := rfl
theorem Z60 : nilsOf T 4 60 = [] := rfl
theorem Z61 : nilsOf T 4 61 = [] := rfl
theorem Z63 : nilsOf T 4 63 = [] := rfl
theorem Z65 : nilsOf T 4 65 = [] := rfl
theorem Z66 : nilsOf T 4 66 = [] := rfl
theorem Z67 : nilsOf T 4 67 = [] := rfl
theorem Z68 : nilsOf T 4 68 = [] := rfl
theorem Z69 : nilsOf T 4 69 = [] := rfl
theorem Z71 : nilsOf T 4 71 = [] := rfl
theorem Z72 : nilsOf T 4 72 = [] := rfl
theorem Z73 : nilsOf T 4 73 = [] := rfl
theorem Z74 : nilsOf T 4 74 = [] := rfl
theorem Z75 : nilsOf T 4 75 = [] := rfl
theorem Z76 : nilsOf T 4 76 = [] := rfl
theorem Z77 : nilsOf T 4 77 = [] := rfl
theorem Z78 : nilsOf T 4 78 = [] := rfl
theorem Z79 : nilsOf T 4 79 = [] := rfl
theorem Z80 : nilsOf T 4 80 = [] := rfl
theorem Z81 : nilsOf T 4 81 = [] := rfl
theorem Z82 : nilsOf T 4 82 = [] := rfl
theorem Z83 : nilsOf T 4 83 = [] := rfl
theorem Z84 : nilsOf T 4 84 = [] := rfl
theorem Z85 : nilsOf T 4 85 = [] := rfl
theorem Z87 : nilsOf T 4 87 = [] := rfl
theorem Z88 : nilsOf T 4 88 = [] := rfl
theorem Z89 : nilsOf T 4 89 = [] := rfl
theorem Z90 : nilsOf T 4 90 = [] := rfl
theorem Z91 : nilsOf T 4 91 = [] := rfl
theorem Z93 : nilsOf T 4 93 = [] := rfl
theorem Z94 : nilsOf T 4 94 = [] := rfl
theorem Z96 : nilsOf T 4 96 = [] := rfl
theorem Z97 : nilsOf T 4 97 = [] := rfl
theorem Z98 : nilsOf T 4 98 = [] := rfl
theorem Z99 : nilsOf T 4 99 = [] := rfl
theorem Z100 : nilsOf T 4 100 = [] := rfl
theorem Z101 : nilsOf T 4 101 = [] := rfl
theorem Z102 : nilsOf T 4 102 = [] := rfl
theorem Z105 : nilsOf T 4 105 = [] := rfl
theorem Z106 : nilsOf T 4 106 = [] := rfl
theorem Z107 : nilsOf T 4 107 = [] := rfl
theorem Z110 : nilsOf T 4 110 = [] := rfl
theorem Z111 : nilsOf T 4 111 = [] := rfl
theorem Z112 : nilsOf T 4 112 = [] := rfl
theorem Z113 : nilsOf T 4 113 = [] := rfl
theorem Z114 : nilsOf T 4 114 = [] := rfl
theorem Z115 : nilsOf T 4 115 = [] := rfl
theorem Z117 : nilsOf T 4 117 = [] := rfl
theorem Z118 : nilsOf T 4 118 = [] := rfl
theorem Z120 : nilsOf T 4 120 = [] := rfl
theorem Z121 : nilsOf T 4 121 = [] := rfl
theorem Z122 : nilsOf T 4 122 = [] := rfl
theorem Z123 : nilsOf T 4 123 = [] := rfl
theorem Z124 : nilsOf T 4 124 = [] := rfl
theorem Z125 : nilsOf T 4 125 = [] := rfl
theorem Z126 : nilsOf T 4 126 = [] := rfl
theorem Z128 : nilsOf T 4 128 = [] := rfl
theorem Z130 : nilsOf T 4 130 = [] := rfl
theorem Z131 : nilsOf T 4 131 = [] := rfl
theorem Z132 : nilsOf T 4 132 = [] := rfl
theorem Z133 : nilsOf T 4 133 = [] := rfl
theorem Z134 : nilsOf T 4 134 = [] := rfl
theorem Z135 : nilsOf T 4 135 = [] := rfl
theorem Z136 : nilsOf T 4 136 = [] := rfl
theorem Z137 : nilsOf T 4 137 = [] := rfl
theorem Z138 : nilsOf T 4 138 = [] := rfl
theorem Z139 : nilsOf T 4 139 = [] := rfl
theorem Z140 : nilsOf T 4 140 = [] := rfl
theorem Z141 : nilsOf T 4 141 = [] := rfl
theorem Z142 : nilsOf T 4 142 = [] := rfl
theorem Z143 : nilsOf T 4 143 = [] := rfl
theorem Z144 : nilsOf T 4 144 = [] := rfl
theorem Z145 : nilsOf T 4 145 = [] := rfl
theorem Z146 : nilsOf T 4 146 = [] := rfl
theorem Z149 : nilsOf T 4 149 = [] := rfl
theorem Z150 : nilsOf T 4 150 = [] := rfl
theorem Z151 : nilsOf T 4 151 = [] := rfl
theorem Z152 : nilsOf T 4 152 = [] := rfl
theorem Z153 : nilsOf T 4 153 = [] := rfl
theorem Z154 : nilsOf T 4 154 = [] := rfl
theorem Z155 : nilsOf T 4 155 = [] := rfl
theorem Z156 : nilsOf T 4 156 = [] := rfl
theorem Z157 : nilsOf T 4 157 = [] := rfl
theorem Z158 : nilsOf T 4 158 = [] := rfl
theorem Z159 : nilsOf T 4 159 = [] := rfl
theorem Z160 : nilsOf T 4 160 = [] := rfl
theorem Z161 : nilsOf T 4 161 = [] := rfl
theorem Z162 : nilsOf T 4 162 = [] := rfl
theorem Z163 : nilsOf T 4 163 = [] := rfl
theorem Z164 : nilsOf T 4 164 = [] := rfl
theorem Z165 : nilsOf T 4 165 = [] := rfl
theorem Z166 : nilsOf T 4 166 = [] := rfl
theorem Z167 : nilsOf T 4 167 = [] := rfl
theorem Z168 : nilsOf T 4 168 = [] := rfl
theorem Z169 : nilsOf T 4 169 = [] := rfl
theorem Z170 : nilsOf T 4 170 = [] := rfl
attribute [push_cast] T2 Z2 T3 Z3 T4 Z4 T5 Z5 T9 Z9 T23 Z23 T24 Z24 T25 Z25 T27 Z27 T28 Z28 T32 Z32 T36 Z36 T37 Z37 T38 Z38 T40 Z40 T42 Z42 T46 Z46 T56 Z56 T62 Z62 T64 Z64 T70 Z70 T86 Z86 T92 Z92 T95 Z95 T103 Z103 T104 Z104 T108 Z108 T109 Z109 T116 Z116 T119 Z119 T127 Z127 T129 Z129 T147 Z147 T148 Z148 Z0 Z1 Z6 Z7 Z8 Z10 Z11 Z12 Z13 Z14 Z15 Z16 Z17 Z18 Z19 Z20 Z21 Z22 Z26 Z29 Z30 Z31 Z33 Z34 Z35 Z39 Z41 Z43 Z44 Z45 Z47 Z48 Z49 Z50 Z51 Z52 Z53 Z54 Z55 Z57 Z58 Z59 Z60 Z61 Z63 Z65 Z66 Z67 Z68 Z69 Z71 Z72 Z73 Z74 Z75 Z76 Z77 Z78 Z79 Z80 Z81 Z82 Z83 Z84 Z85 Z87 Z88 Z89 Z90 Z91 Z93 Z94 Z96 Z97 Z98 Z99 Z100 Z101 Z102 Z105 Z106 Z107 Z110 Z111 Z112 Z113 Z114 Z115 Z117 Z118 Z120 Z121 Z122 Z123 Z124 Z125 Z126 Z128 Z130 Z131 Z132 Z133 Z134 Z135 Z136 Z137 Z138 Z139 Z140 Z141 Z142 Z143 Z144 Z145 Z146 Z149 Z150 Z151 Z152 Z153 Z154 Z155 Z156 Z157 Z158 Z159 Z160 Z161 Z162 Z163 Z164 Z165 Z166 Z167 Z168 Z169 Z170 D23_0 D23_1 D23_2 D23_3 D27_0 D27_1 D27_2 D27_3 D27_4 D36_0 D36_1 D36_2 D36_3 D40_0 D40_1 D40_2 D40_3 D40_4 D64_0 D64_1 D64_2 D86_0 D86_1 D86_2 D92_0 D92_1 D92_2 D103_0 D103_1 D108_0 D108_1 D129_0 D129_1
end Go.LS.Try
