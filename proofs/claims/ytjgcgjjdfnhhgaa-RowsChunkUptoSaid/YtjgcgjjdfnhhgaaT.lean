/- The types of the seat Ytjgcgjjdfnhhgaa, as the walk knows them. Made by lstypes.py. -/
import Derived.Test.YtjgcgjjdfnhhgaaLD
import Derived.Test.YtjgcgjjdfnhhgaaProg
namespace Go.LS.Tryr
open Go Go.LS
set_option maxRecDepth 1000000

def T : Tab
  | 3 => some ⟨.int .i64, 1, 8, .int .i64 0, none⟩
  | 4 => some ⟨.bool, 1, 1, .bool false, none⟩
  | 5 => some ⟨.int .u8, 1, 1, .int .u8 0, none⟩
  | 22 => some ⟨.slice 3, 1, 24, .slice none 0 0, none⟩
  | 24 => some ⟨.slice 22, 1, 24, .slice none 0 0, none⟩
  | 27 => some ⟨.func #[54] #[] false, 1, 8, .nilFunc, none⟩
  | 30 => some ⟨.func #[35] #[] false, 1, 8, .nilFunc, none⟩
  | 35 => some ⟨.func #[3] #[4] false, 1, 8, .nilFunc, none⟩
  | 40 => some ⟨.pointer 3, 1, 8, .pointer none, none⟩
  | 41 => some ⟨.slice 4, 1, 24, .slice none 0 0, none⟩
  | 44 => some ⟨.func #[55] #[] false, 1, 8, .nilFunc, none⟩
  | 51 => some ⟨.func #[3] #[3] false, 1, 8, .nilFunc, none⟩
  | 54 => some ⟨.func #[22] #[4] false, 1, 8, .nilFunc, none⟩
  | 55 => some ⟨.func #[4] #[4] false, 1, 8, .nilFunc, none⟩
  | 56 => some ⟨.slice 30, 1, 24, .slice none 0 0, none⟩
  | _ => none
theorem T3 : T 3 = some ⟨.int .i64, 1, 8, .int .i64 0, none⟩ := rfl
theorem Z3 : nilsOf T 4 3 = [none] := rfl
theorem T4 : T 4 = some ⟨.bool, 1, 1, .bool false, none⟩ := rfl
theorem Z4 : nilsOf T 4 4 = [none] := rfl
theorem T5 : T 5 = some ⟨.int .u8, 1, 1, .int .u8 0, none⟩ := rfl
theorem Z5 : nilsOf T 4 5 = [none] := rfl
theorem T22 : T 22 = some ⟨.slice 3, 1, 24, .slice none 0 0, none⟩ := rfl
theorem Z22 : nilsOf T 4 22 = [some 1] := rfl
theorem T24 : T 24 = some ⟨.slice 22, 1, 24, .slice none 0 0, none⟩ := rfl
theorem Z24 : nilsOf T 4 24 = [some 1] := rfl
theorem T27 : T 27 = some ⟨.func #[54] #[] false, 1, 8, .nilFunc, none⟩ := rfl
theorem Z27 : nilsOf T 4 27 = [none] := rfl
theorem T30 : T 30 = some ⟨.func #[35] #[] false, 1, 8, .nilFunc, none⟩ := rfl
theorem Z30 : nilsOf T 4 30 = [none] := rfl
theorem T35 : T 35 = some ⟨.func #[3] #[4] false, 1, 8, .nilFunc, none⟩ := rfl
theorem Z35 : nilsOf T 4 35 = [none] := rfl
theorem T40 : T 40 = some ⟨.pointer 3, 1, 8, .pointer none, none⟩ := rfl
theorem Z40 : nilsOf T 4 40 = [none] := rfl
theorem T41 : T 41 = some ⟨.slice 4, 1, 24, .slice none 0 0, none⟩ := rfl
theorem Z41 : nilsOf T 4 41 = [some 1] := rfl
theorem T44 : T 44 = some ⟨.func #[55] #[] false, 1, 8, .nilFunc, none⟩ := rfl
theorem Z44 : nilsOf T 4 44 = [none] := rfl
theorem T51 : T 51 = some ⟨.func #[3] #[3] false, 1, 8, .nilFunc, none⟩ := rfl
theorem Z51 : nilsOf T 4 51 = [none] := rfl
theorem T54 : T 54 = some ⟨.func #[22] #[4] false, 1, 8, .nilFunc, none⟩ := rfl
theorem Z54 : nilsOf T 4 54 = [none] := rfl
theorem T55 : T 55 = some ⟨.func #[4] #[4] false, 1, 8, .nilFunc, none⟩ := rfl
theorem Z55 : nilsOf T 4 55 = [none] := rfl
theorem T56 : T 56 = some ⟨.slice 30, 1, 24, .slice none 0 0, none⟩ := rfl
theorem Z56 : nilsOf T 4 56 = [some 1] := rfl
theorem ok3 : okTI Go.Proofs.Try.prog 3 ⟨.int .i64, 1, 8, .int .i64 0, none⟩ := ⟨by rfl, ⟨_, by rfl, rfl, rfl, rfl⟩, (fun _ h => by cases h), by decide⟩
theorem ok4 : okTI Go.Proofs.Try.prog 4 ⟨.bool, 1, 1, .bool false, none⟩ := ⟨by rfl, ⟨_, by rfl, rfl, rfl, rfl⟩, (fun _ h => by cases h), by decide⟩
theorem ok5 : okTI Go.Proofs.Try.prog 5 ⟨.int .u8, 1, 1, .int .u8 0, none⟩ := ⟨by rfl, ⟨_, by rfl, rfl, rfl, rfl⟩, (fun _ h => by cases h), by decide⟩
theorem ok22 : okTI Go.Proofs.Try.prog 22 ⟨.slice 3, 1, 24, .slice none 0 0, none⟩ := ⟨by rfl, ⟨_, by rfl, rfl, rfl, rfl⟩, (fun _ h => by cases h), by decide⟩
theorem ok24 : okTI Go.Proofs.Try.prog 24 ⟨.slice 22, 1, 24, .slice none 0 0, none⟩ := ⟨by rfl, ⟨_, by rfl, rfl, rfl, rfl⟩, (fun _ h => by cases h), by decide⟩
theorem ok27 : okTI Go.Proofs.Try.prog 27 ⟨.func #[54] #[] false, 1, 8, .nilFunc, none⟩ := ⟨by rfl, ⟨_, by rfl, rfl, rfl, rfl⟩, (fun _ h => by cases h), by decide⟩
theorem ok30 : okTI Go.Proofs.Try.prog 30 ⟨.func #[35] #[] false, 1, 8, .nilFunc, none⟩ := ⟨by rfl, ⟨_, by rfl, rfl, rfl, rfl⟩, (fun _ h => by cases h), by decide⟩
theorem ok35 : okTI Go.Proofs.Try.prog 35 ⟨.func #[3] #[4] false, 1, 8, .nilFunc, none⟩ := ⟨by rfl, ⟨_, by rfl, rfl, rfl, rfl⟩, (fun _ h => by cases h), by decide⟩
theorem ok40 : okTI Go.Proofs.Try.prog 40 ⟨.pointer 3, 1, 8, .pointer none, none⟩ := ⟨by rfl, ⟨_, by rfl, rfl, rfl, rfl⟩, (fun _ h => by cases h), by decide⟩
theorem ok41 : okTI Go.Proofs.Try.prog 41 ⟨.slice 4, 1, 24, .slice none 0 0, none⟩ := ⟨by rfl, ⟨_, by rfl, rfl, rfl, rfl⟩, (fun _ h => by cases h), by decide⟩
theorem ok44 : okTI Go.Proofs.Try.prog 44 ⟨.func #[55] #[] false, 1, 8, .nilFunc, none⟩ := ⟨by rfl, ⟨_, by rfl, rfl, rfl, rfl⟩, (fun _ h => by cases h), by decide⟩
theorem ok51 : okTI Go.Proofs.Try.prog 51 ⟨.func #[3] #[3] false, 1, 8, .nilFunc, none⟩ := ⟨by rfl, ⟨_, by rfl, rfl, rfl, rfl⟩, (fun _ h => by cases h), by decide⟩
theorem ok54 : okTI Go.Proofs.Try.prog 54 ⟨.func #[22] #[4] false, 1, 8, .nilFunc, none⟩ := ⟨by rfl, ⟨_, by rfl, rfl, rfl, rfl⟩, (fun _ h => by cases h), by decide⟩
theorem ok55 : okTI Go.Proofs.Try.prog 55 ⟨.func #[4] #[4] false, 1, 8, .nilFunc, none⟩ := ⟨by rfl, ⟨_, by rfl, rfl, rfl, rfl⟩, (fun _ h => by cases h), by decide⟩
theorem ok56 : okTI Go.Proofs.Try.prog 56 ⟨.slice 30, 1, 24, .slice none 0 0, none⟩ := ⟨by rfl, ⟨_, by rfl, rfl, rfl, rfl⟩, (fun _ h => by cases h), by decide⟩
theorem okAll : okT Go.Proofs.Try.prog T := by
  intro t i h
  unfold T at h
  split at h
  · injection h with h; subst h; exact ok3
  · injection h with h; subst h; exact ok4
  · injection h with h; subst h; exact ok5
  · injection h with h; subst h; exact ok22
  · injection h with h; subst h; exact ok24
  · injection h with h; subst h; exact ok27
  · injection h with h; subst h; exact ok30
  · injection h with h; subst h; exact ok35
  · injection h with h; subst h; exact ok40
  · injection h with h; subst h; exact ok41
  · injection h with h; subst h; exact ok44
  · injection h with h; subst h; exact ok51
  · injection h with h; subst h; exact ok54
  · injection h with h; subst h; exact ok55
  · injection h with h; subst h; exact ok56
  · cases h
theorem Z0 : nilsOf T 4 0 = [] := rfl
theorem Z1 : nilsOf T 4 1 = [] := rfl
theorem Z2 : nilsOf T 4 2 = [] := rfl
theorem Z6 : nilsOf T 4 6 = [] := rfl
theorem Z7 : nilsOf T 4 7 = [] := rfl
theorem Z8 : nilsOf T 4 8 = [] := rfl
theorem Z9 : nilsOf T 4 9 = [] := rfl
theorem Z10 : nilsOf T 4 10 = [] := rfl
theorem Z11 : nilsOf T 4 11 = [] := rfl
theorem Z12 : nilsOf T 4 12 = [] := rfl
theorem Z13 : nilsOf T 4 13 = [] := rfl
theorem Z14 : nilsOf T 4 14 = [] := rfl
theorem Z15 : nilsOf T 4 15 = [] := rfl
theorem Z16 : nilsOf T 4 16 = [] := rfl
theorem Z17 : nilsOf T 4 17 = [] := rfl
theorem Z18 : nilsOf T 4 18 = [] := rfl
theorem Z19 : nilsOf T 4 19 = [] := rfl
theorem Z20 : nilsOf T 4 20 = [] := rfl
theorem Z21 : nilsOf T 4 21 = [] := rfl
theorem Z23 : nilsOf T 4 23 = [] := rfl
theorem Z25 : nilsOf T 4 25 = [] := rfl
theorem Z26 : nilsOf T 4 26 = [] := rfl
theorem Z28 : nilsOf T 4 28 = [] := rfl
theorem Z29 : nilsOf T 4 29 = [] := rfl
theorem Z31 : nilsOf T 4 31 = [] := rfl
theorem Z32 : nilsOf T 4 32 = [] := rfl
theorem Z33 : nilsOf T 4 33 = [] := rfl
theorem Z34 : nilsOf T 4 34 = [] := rfl
theorem Z36 : nilsOf T 4 36 = [] := rfl
theorem Z37 : nilsOf T 4 37 = [] := rfl
theorem Z38 : nilsOf T 4 38 = [] := rfl
theorem Z39 : nilsOf T 4 39 = [] := rfl
theorem Z42 : nilsOf T 4 42 = [] := rfl
theorem Z43 : nilsOf T 4 43 = [] := rfl
theorem Z45 : nilsOf T 4 45 = [] := rfl
theorem Z46 : nilsOf T 4 46 = [] := rfl
theorem Z47 : nilsOf T 4 47 = [] := rfl
theorem Z48 : nilsOf T 4 48 = [] := rfl
theorem Z49 : nilsOf T 4 49 = [] := rfl
theorem Z50 : nilsOf T 4 50 = [] := rfl
theorem Z52 : nilsOf T 4 52 = [] := rfl
theorem Z53 : nilsOf T 4 53 = [] := rfl
theorem Z57 : nilsOf T 4 57 = [] := rfl
theorem Z58 : nilsOf T 4 58 = [] := rfl
theorem Z59 : nilsOf T 4 59 = [] := rfl
theorem Z60 : nilsOf T 4 60 = [] := rfl
theorem Z61 : nilsOf T 4 61 = [] := rfl
theorem Z62 : nilsOf T 4 62 = [] := rfl
theorem Z63 : nilsOf T 4 63 = [] := rfl
theorem Z64 : nilsOf T 4 64 = [] := rfl
theorem Z65 : nilsOf T 4 65 = [] := rfl
theorem Z66 : nilsOf T 4 66 = [] := rfl
theorem Z67 : nilsOf T 4 67 = [] := rfl
theorem Z68 : nilsOf T 4 68 = [] := rfl
theorem Z69 : nilsOf T 4 69 = [] := rfl
theorem Z70 : nilsOf T 4 70 = [] := rfl
theorem Z71 : nilsOf T 4 71 = [] := rfl
theorem Z72 : nilsOf T 4 72 = [] := rfl
theorem Z73 : nilsOf T 4 73 = [] := rfl
attribute [push_cast] T3 Z3 T4 Z4 T5 Z5 T22 Z22 T24 Z24 T27 Z27 T30 Z30 T35 Z35 T40 Z40 T41 Z41 T44 Z44 T51 Z51 T54 Z54 T55 Z55 T56 Z56 Z0 Z1 Z2 Z6 Z7 Z8 Z9 Z10 Z11 Z12 Z13 Z14 Z15 Z16 Z17 Z18 Z19 Z20 Z21 Z23 Z25 Z26 Z28 Z29 Z31 Z32 Z33 Z34 Z36 Z37 Z38 Z39 Z42 Z43 Z45 Z46 Z47 Z48 Z49 Z50 Z52 Z53 Z57 Z58 Z59 Z60 Z61 Z62 Z63 Z64 Z65 Z66 Z67 Z68 Z69 Z70 Z71 Z72 Z73
end Go.LS.Tryr
