/- The types of the seat YtfmbjaeppffdpaaGreatDoor,as the walk knows them. Made by lstypes.py. -/
import Derived.Test.YtfmbjaeppffdpaaGreatDoorLD
import Derived.Test.YtfmbjaeppffdpaaGreatDoorProg
namespace Go.LS.Tryz
open Go Go.LS
set_option maxRecDepth 1000000
abbrev D25:TypeDesc:=.struct #[{ name := "L",type:=22,offset:=0,embedded:=false,tag := "",pkgPath := "",byteOffset:=0 },{ name := "Rows",type:=23,offset:=1,embedded:=false,tag := "",pkgPath := "",byteOffset:=24 }]
abbrev D27:TypeDesc:=.struct #[{ name := "Kind",type:=3,offset:=0,embedded:=false,tag := "",pkgPath := "",byteOffset:=0 },{ name := "S",type:=9,offset:=1,embedded:=false,tag := "",pkgPath := "",byteOffset:=8 },{ name := "N",type:=2,offset:=2,embedded:=false,tag := "",pkgPath := "",byteOffset:=24 },{ name := "B",type:=4,offset:=3,embedded:=false,tag := "",pkgPath := "",byteOffset:=32 }]
abbrev D31:TypeDesc:=.struct #[{ name := "Op",type:=3,offset:=0,embedded:=false,tag := "",pkgPath := "",byteOffset:=0 },{ name := "Col",type:=9,offset:=1,embedded:=false,tag := "",pkgPath := "",byteOffset:=8 },{ name := "V",type:=27,offset:=2,embedded:=false,tag := "",pkgPath := "",byteOffset:=24 },{ name := "List",type:=28,offset:=6,embedded:=false,tag := "",pkgPath := "",byteOffset:=64 },{ name := "Kids",type:=29,offset:=7,embedded:=false,tag := "",pkgPath := "",byteOffset:=88 }]
abbrev D38:TypeDesc:=.struct #[{ name := "Kind",type:=3,offset:=0,embedded:=false,tag := "",pkgPath := "",byteOffset:=0 },{ name := "S",type:=9,offset:=1,embedded:=false,tag := "",pkgPath := "",byteOffset:=8 },{ name := "N",type:=2,offset:=2,embedded:=false,tag := "",pkgPath := "",byteOffset:=24 },{ name := "B",type:=3,offset:=3,embedded:=false,tag := "",pkgPath := "",byteOffset:=32 }]
abbrev D42:TypeDesc:=.struct #[{ name := "Op",type:=3,offset:=0,embedded:=false,tag := "",pkgPath := "",byteOffset:=0 },{ name := "Col",type:=9,offset:=1,embedded:=false,tag := "",pkgPath := "",byteOffset:=8 },{ name := "V",type:=38,offset:=2,embedded:=false,tag := "",pkgPath := "",byteOffset:=24 },{ name := "List",type:=39,offset:=6,embedded:=false,tag := "",pkgPath := "",byteOffset:=64 },{ name := "Kids",type:=40,offset:=7,embedded:=false,tag := "",pkgPath := "",byteOffset:=88 }]
abbrev D50:TypeDesc:=.struct #[{ name := "Kind",type:=3,offset:=0,embedded:=false,tag := "",pkgPath := "",byteOffset:=0 },{ name := "Query",type:=31,offset:=1,embedded:=false,tag := "",pkgPath := "",byteOffset:=8 },{ name := "Keys",type:=45,offset:=9,embedded:=false,tag := "",pkgPath := "",byteOffset:=120 },{ name := "N",type:=3,offset:=10,embedded:=false,tag := "",pkgPath := "",byteOffset:=144 },{ name := "Names",type:=46,offset:=11,embedded:=false,tag := "",pkgPath := "",byteOffset:=152 },{ name := "With",type:=25,offset:=12,embedded:=false,tag := "",pkgPath := "",byteOffset:=176 },{ name := "On",type:=47,offset:=14,embedded:=false,tag := "",pkgPath := "",byteOffset:=224 },{ name := "How",type:=3,offset:=15,embedded:=false,tag := "",pkgPath := "",byteOffset:=248 },{ name := "Aggs",type:=48,offset:=16,embedded:=false,tag := "",pkgPath := "",byteOffset:=256 }]
abbrev D52:TypeDesc:=.struct #[{ name := "Name",type:=9,offset:=0,embedded:=false,tag := "",pkgPath := "",byteOffset:=0 },{ name := "Kind",type:=3,offset:=1,embedded:=false,tag := "",pkgPath := "",byteOffset:=16 },{ name := "Null",type:=4,offset:=2,embedded:=false,tag := "",pkgPath := "",byteOffset:=24 }]
abbrev D54:TypeDesc:=.struct #[{ name := "Col",type:=9,offset:=0,embedded:=false,tag := "",pkgPath := "",byteOffset:=0 },{ name := "Down",type:=4,offset:=1,embedded:=false,tag := "",pkgPath := "",byteOffset:=16 }]
abbrev D60:TypeDesc:=.struct #[{ name := "Op",type:=3,offset:=0,embedded:=false,tag := "",pkgPath := "",byteOffset:=0 },{ name := "Col",type:=9,offset:=1,embedded:=false,tag := "",pkgPath := "",byteOffset:=8 },{ name := "Name",type:=9,offset:=2,embedded:=false,tag := "",pkgPath := "",byteOffset:=24 }]
abbrev D65:TypeDesc:=.struct #[{ name := "Left",type:=9,offset:=0,embedded:=false,tag := "",pkgPath := "",byteOffset:=0 },{ name := "Right",type:=9,offset:=1,embedded:=false,tag := "",pkgPath := "",byteOffset:=16 }]
abbrev D74:TypeDesc:=.struct #[{ name := "L",type:=71,offset:=0,embedded:=false,tag := "",pkgPath := "",byteOffset:=0 },{ name := "Rows",type:=72,offset:=1,embedded:=false,tag := "",pkgPath := "",byteOffset:=24 }]
abbrev D82:TypeDesc:=.struct #[{ name := "Kind",type:=3,offset:=0,embedded:=false,tag := "",pkgPath := "",byteOffset:=0 },{ name := "Query",type:=42,offset:=1,embedded:=false,tag := "",pkgPath := "",byteOffset:=8 },{ name := "Keys",type:=78,offset:=9,embedded:=false,tag := "",pkgPath := "",byteOffset:=120 },{ name := "N",type:=3,offset:=10,embedded:=false,tag := "",pkgPath := "",byteOffset:=144 },{ name := "Names",type:=46,offset:=11,embedded:=false,tag := "",pkgPath := "",byteOffset:=152 },{ name := "With",type:=74,offset:=12,embedded:=false,tag := "",pkgPath := "",byteOffset:=176 },{ name := "On",type:=79,offset:=14,embedded:=false,tag := "",pkgPath := "",byteOffset:=224 },{ name := "How",type:=3,offset:=15,embedded:=false,tag := "",pkgPath := "",byteOffset:=248 },{ name := "Aggs",type:=80,offset:=16,embedded:=false,tag := "",pkgPath := "",byteOffset:=256 }]
abbrev D136:TypeDesc:=.struct #[{ name := "Name",type:=9,offset:=0,embedded:=false,tag := "",pkgPath := "",byteOffset:=0 },{ name := "Kind",type:=3,offset:=1,embedded:=false,tag := "",pkgPath := "",byteOffset:=16 },{ name := "Null",type:=3,offset:=2,embedded:=false,tag := "",pkgPath := "",byteOffset:=24 }]
abbrev D146:TypeDesc:=.struct #[{ name := "Left",type:=9,offset:=0,embedded:=false,tag := "",pkgPath := "",byteOffset:=0 },{ name := "Right",type:=9,offset:=1,embedded:=false,tag := "",pkgPath := "",byteOffset:=16 }]
abbrev D190:TypeDesc:=.struct #[{ name := "Col",type:=9,offset:=0,embedded:=false,tag := "",pkgPath := "",byteOffset:=0 },{ name := "Down",type:=3,offset:=1,embedded:=false,tag := "",pkgPath := "",byteOffset:=16 }]
abbrev D195:TypeDesc:=.struct #[{ name := "Op",type:=3,offset:=0,embedded:=false,tag := "",pkgPath := "",byteOffset:=0 },{ name := "Col",type:=9,offset:=1,embedded:=false,tag := "",pkgPath := "",byteOffset:=8 },{ name := "Name",type:=9,offset:=2,embedded:=false,tag := "",pkgPath := "",byteOffset:=24 }]
abbrev D220:TypeDesc:=.struct #[{ name := "at",type:=3,offset:=0,embedded:=false,tag := "",pkgPath := "quillpen/order",byteOffset:=0 },{ name := "down",type:=4,offset:=1,embedded:=false,tag := "",pkgPath := "quillpen/order",byteOffset:=8 }]
abbrev D270:TypeDesc:=.struct #[{ name := "names",type:=46,offset:=0,embedded:=false,tag := "",pkgPath := "quillpen/head",byteOffset:=0 },{ name := "places",type:=235,offset:=1,embedded:=false,tag := "",pkgPath := "quillpen/head",byteOffset:=24 }]
def T:Tab
 | 2=>some ⟨.int .i64,1,8,.int .i64 0,none⟩
 | 3=>some ⟨.int .i64,1,8,.int .i64 0,none⟩
 | 4=>some ⟨.bool,1,1,.bool false,none⟩
 | 5=>some ⟨.int .u8,1,1,.int .u8 0,none⟩
 | 9=>some ⟨.string,1,16,.string ByteArray.empty,none⟩
 | 22=>some ⟨.slice 52,1,24,.slice none 0 0,none⟩
 | 23=>some ⟨.slice 28,1,24,.slice none 0 0,none⟩
 | 25=>some ⟨D25,2,48,.agg #[.slice none 0 0,.slice none 0 0],none⟩
 | 27=>some ⟨D27,4,40,.agg #[.int .i64 0,.string ByteArray.empty,.int .i64 0,.bool false],some [.int .i64,.string,.int .i64,.bool]⟩
 | 28=>some ⟨.slice 27,1,24,.slice none 0 0,none⟩
 | 29=>some ⟨.slice 31,1,24,.slice none 0 0,none⟩
 | 31=>some ⟨D31,8,112,.agg #[.int .i64 0,.string ByteArray.empty,.int .i64 0,.string ByteArray.empty,.int .i64 0,.bool false,.slice none 0 0,.slice none 0 0],none⟩
 | 34=>some ⟨.int .i64,1,8,.int .i64 0,none⟩
 | 38=>some ⟨D38,4,40,.agg #[.int .i64 0,.string ByteArray.empty,.int .i64 0,.int .i64 0],some [.int .i64,.string,.int .i64,.int .i64]⟩
 | 39=>some ⟨.slice 38,1,24,.slice none 0 0,none⟩
 | 40=>some ⟨.slice 42,1,24,.slice none 0 0,none⟩
 | 42=>some ⟨D42,8,112,.agg #[.int .i64 0,.string ByteArray.empty,.int .i64 0,.string ByteArray.empty,.int .i64 0,.int .i64 0,.slice none 0 0,.slice none 0 0],none⟩
 | 45=>some ⟨.slice 54,1,24,.slice none 0 0,none⟩
 | 46=>some ⟨.slice 9,1,24,.slice none 0 0,none⟩
 | 47=>some ⟨.slice 65,1,24,.slice none 0 0,none⟩
 | 48=>some ⟨.slice 60,1,24,.slice none 0 0,none⟩
 | 50=>some ⟨D50,17,280,.agg #[.int .i64 0,.int .i64 0,.string ByteArray.empty,.int .i64 0,.string ByteArray.empty,.int .i64 0,.bool false,.slice none 0 0,.slice none 0 0,.slice none 0 0,.int .i64 0,.slice none 0 0,.slice none 0 0,.slice none 0 0,.slice none 0 0,.int .i64 0,.slice none 0 0],none⟩
 | 52=>some ⟨D52,3,32,.agg #[.string ByteArray.empty,.int .i64 0,.bool false],none⟩
 | 54=>some ⟨D54,2,24,.agg #[.string ByteArray.empty,.bool false],none⟩
 | 60=>some ⟨D60,3,40,.agg #[.int .i64 0,.string ByteArray.empty,.string ByteArray.empty],none⟩
 | 65=>some ⟨D65,2,32,.agg #[.string ByteArray.empty,.string ByteArray.empty],none⟩
 | 68=>some ⟨.slice 50,1,24,.slice none 0 0,none⟩
 | 71=>some ⟨.slice 136,1,24,.slice none 0 0,none⟩
 | 72=>some ⟨.slice 39,1,24,.slice none 0 0,none⟩
 | 74=>some ⟨D74,2,48,.agg #[.slice none 0 0,.slice none 0 0],none⟩
 | 78=>some ⟨.slice 190,1,24,.slice none 0 0,none⟩
 | 79=>some ⟨.slice 146,1,24,.slice none 0 0,none⟩
 | 80=>some ⟨.slice 195,1,24,.slice none 0 0,none⟩
 | 82=>some ⟨D82,17,280,.agg #[.int .i64 0,.int .i64 0,.string ByteArray.empty,.int .i64 0,.string ByteArray.empty,.int .i64 0,.int .i64 0,.slice none 0 0,.slice none 0 0,.slice none 0 0,.int .i64 0,.slice none 0 0,.slice none 0 0,.slice none 0 0,.slice none 0 0,.int .i64 0,.slice none 0 0],none⟩
 | 90=>some ⟨.slice 82,1,24,.slice none 0 0,none⟩
 | 136=>some ⟨D136,3,32,.agg #[.string ByteArray.empty,.int .i64 0,.int .i64 0],some [.string,.int .i64,.int .i64]⟩
 | 146=>some ⟨D146,2,32,.agg #[.string ByteArray.empty,.string ByteArray.empty],none⟩
 | 151=>some ⟨.map 9 4,1,8,.map none,none⟩
 | 160=>some ⟨.slice 220,1,24,.slice none 0 0,none⟩
 | 167=>some ⟨.slice 3,1,24,.slice none 0 0,none⟩
 | 173=>some ⟨.map 9 167,1,8,.map none,none⟩
 | 181=>some ⟨.slice 23,1,24,.slice none 0 0,none⟩
 | 187=>some ⟨.slice 4,1,24,.slice none 0 0,none⟩
 | 190=>some ⟨D190,2,24,.agg #[.string ByteArray.empty,.int .i64 0],none⟩
 | 195=>some ⟨D195,3,40,.agg #[.int .i64 0,.string ByteArray.empty,.string ByteArray.empty],none⟩
 | 199=>some ⟨.slice 72,1,24,.slice none 0 0,none⟩
 | 220=>some ⟨D220,2,16,.agg #[.int .i64 0,.bool false],none⟩
 | 224=>some ⟨.slice 5,1,24,.slice none 0 0,none⟩
 | 231=>some ⟨.pointer 270,1,8,.pointer none,none⟩
 | 235=>some ⟨.map 9 3,1,8,.map none,none⟩
 | 239=>some ⟨.slice 2,1,24,.slice none 0 0,none⟩
 | 270=>some ⟨D270,2,32,.agg #[.slice none 0 0,.map none],none⟩
 | 271=>some ⟨.int .u64,1,8,.int .u64 0,none⟩
 | 274=>some ⟨.int .u64,1,8,.int .u64 0,none⟩
 | 287=>some ⟨.array 24 5,24,24,.agg #[.int .u8 0,.int .u8 0,.int .u8 0,.int .u8 0,.int .u8 0,.int .u8 0,.int .u8 0,.int .u8 0,.int .u8 0,.int .u8 0,.int .u8 0,.int .u8 0,.int .u8 0,.int .u8 0,.int .u8 0,.int .u8 0,.int .u8 0,.int .u8 0,.int .u8 0,.int .u8 0,.int .u8 0,.int .u8 0,.int .u8 0,.int .u8 0],none⟩
 | 293=>some ⟨.array 20 271,20,160,.agg #[.int .u64 0,.int .u64 0,.int .u64 0,.int .u64 0,.int .u64 0,.int .u64 0,.int .u64 0,.int .u64 0,.int .u64 0,.int .u64 0,.int .u64 0,.int .u64 0,.int .u64 0,.int .u64 0,.int .u64 0,.int .u64 0,.int .u64 0,.int .u64 0,.int .u64 0,.int .u64 0],none⟩
 | 294=>some ⟨.int .u32,1,4,.int .u32 0,none⟩
 | 295=>some ⟨.array 65 5,65,65,.agg #[.int .u8 0,.int .u8 0,.int .u8 0,.int .u8 0,.int .u8 0,.int .u8 0,.int .u8 0,.int .u8 0,.int .u8 0,.int .u8 0,.int .u8 0,.int .u8 0,.int .u8 0,.int .u8 0,.int .u8 0,.int .u8 0,.int .u8 0,.int .u8 0,.int .u8 0,.int .u8 0,.int .u8 0,.int .u8 0,.int .u8 0,.int .u8 0,.int .u8 0,.int .u8 0,.int .u8 0,.int .u8 0,.int .u8 0,.int .u8 0,.int .u8 0,.int .u8 0,.int .u8 0,.int .u8 0,.int .u8 0,.int .u8 0,.int .u8 0,.int .u8 0,.int .u8 0,.int .u8 0,.int .u8 0,.int .u8 0,.int .u8 0,.int .u8 0,.int .u8 0,.int .u8 0,.int .u8 0,.int .u8 0,.int .u8 0,.int .u8 0,.int .u8 0,.int .u8 0,.int .u8 0,.int .u8 0,.int .u8 0,.int .u8 0,.int .u8 0,.int .u8 0,.int .u8 0,.int .u8 0,.int .u8 0,.int .u8 0,.int .u8 0,.int .u8 0,.int .u8 0],none⟩
 | 298=>some ⟨.array 32 5,32,32,.agg #[.int .u8 0,.int .u8 0,.int .u8 0,.int .u8 0,.int .u8 0,.int .u8 0,.int .u8 0,.int .u8 0,.int .u8 0,.int .u8 0,.int .u8 0,.int .u8 0,.int .u8 0,.int .u8 0,.int .u8 0,.int .u8 0,.int .u8 0,.int .u8 0,.int .u8 0,.int .u8 0,.int .u8 0,.int .u8 0,.int .u8 0,.int .u8 0,.int .u8 0,.int .u8 0,.int .u8 0,.int .u8 0,.int .u8 0,.int .u8 0,.int .u8 0,.int .u8 0],none⟩
 | 299=>some ⟨.array 64 5,64,64,.agg #[.int .u8 0,.int .u8 0,.int .u8 0,.int .u8 0,.int .u8 0,.int .u8 0,.int .u8 0,.int .u8 0,.int .u8 0,.int .u8 0,.int .u8 0,.int .u8 0,.int .u8 0,.int .u8 0,.int .u8 0,.int .u8 0,.int .u8 0,.int .u8 0,.int .u8 0,.int .u8 0,.int .u8 0,.int .u8 0,.int .u8 0,.int .u8 0,.int .u8 0,.int .u8 0,.int .u8 0,.int .u8 0,.int .u8 0,.int .u8 0,.int .u8 0,.int .u8 0,.int .u8 0,.int .u8 0,.int .u8 0,.int .u8 0,.int .u8 0,.int .u8 0,.int .u8 0,.int .u8 0,.int .u8 0,.int .u8 0,.int .u8 0,.int .u8 0,.int .u8 0,.int .u8 0,.int .u8 0,.int .u8 0,.int .u8 0,.int .u8 0,.int .u8 0,.int .u8 0,.int .u8 0,.int .u8 0,.int .u8 0,.int .u8 0,.int .u8 0,.int .u8 0,.int .u8 0,.int .u8 0,.int .u8 0,.int .u8 0,.int .u8 0,.int .u8 0],none⟩
 | _=>none
theorem T2:T 2=some ⟨.int .i64,1,8,.int .i64 0,none⟩:=rfl
theorem Z2:nilsOf T 4 2=[none]:=rfl
theorem T3:T 3=some ⟨.int .i64,1,8,.int .i64 0,none⟩:=rfl
theorem Z3:nilsOf T 4 3=[none]:=rfl
theorem T4:T 4=some ⟨.bool,1,1,.bool false,none⟩:=rfl
theorem Z4:nilsOf T 4 4=[none]:=rfl
theorem T5:T 5=some ⟨.int .u8,1,1,.int .u8 0,none⟩:=rfl
theorem Z5:nilsOf T 4 5=[none]:=rfl
theorem T9:T 9=some ⟨.string,1,16,.string ByteArray.empty,none⟩:=rfl
theorem Z9:nilsOf T 4 9=[none]:=rfl
theorem T22:T 22=some ⟨.slice 52,1,24,.slice none 0 0,none⟩:=rfl
theorem Z22:nilsOf T 4 22=[some 3]:=rfl
theorem T23:T 23=some ⟨.slice 28,1,24,.slice none 0 0,none⟩:=rfl
theorem Z23:nilsOf T 4 23=[some 1]:=rfl
theorem T25:T 25=some ⟨D25,2,48,.agg #[.slice none 0 0,.slice none 0 0],none⟩:=rfl
theorem Z25:nilsOf T 4 25=[some 3,some 1]:=rfl
theorem D25_0:fOff D25 0=some (0,22):=rfl
theorem D25_1:fOff D25 1=some (1,23):=rfl
theorem T27:T 27=some ⟨D27,4,40,.agg #[.int .i64 0,.string ByteArray.empty,.int .i64 0,.bool false],some [.int .i64,.string,.int .i64,.bool]⟩:=rfl
theorem Z27:nilsOf T 4 27=[none,none,none,none]:=rfl
theorem D27_0:fOff D27 0=some (0,3):=rfl
theorem D27_1:fOff D27 1=some (1,9):=rfl
theorem D27_2:fOff D27 2=some (2,2):=rfl
theorem D27_3:fOff D27 3=some (3,4):=rfl
theorem T28:T 28=some ⟨.slice 27,1,24,.slice none 0 0,none⟩:=rfl
theorem Z28:nilsOf T 4 28=[some 4]:=rfl
theorem T29:T 29=some ⟨.slice 31,1,24,.slice none 0 0,none⟩:=rfl
theorem Z29:nilsOf T 4 29=[some 8]:=rfl
theorem T31:T 31=some ⟨D31,8,112,.agg #[.int .i64 0,.string ByteArray.empty,.int .i64 0,.string ByteArray.empty,.int .i64 0,.bool false,.slice none 0 0,.slice none 0 0],none⟩:=rfl
theorem Z31:nilsOf T 4 31=[none,none,none,none,none,none,some 4,some 8]:=rfl
theorem D31_0:fOff D31 0=some (0,3):=rfl
theorem D31_1:fOff D31 1=some (1,9):=rfl
theorem D31_2:fOff D31 2=some (2,27):=rfl
theorem D31_3:fOff D31 3=some (6,28):=rfl
theorem D31_4:fOff D31 4=some (7,29):=rfl
theorem T34:T 34=some ⟨.int .i64,1,8,.int .i64 0,none⟩:=rfl
theorem Z34:nilsOf T 4 34=[none]:=rfl
theorem T38:T 38=some ⟨D38,4,40,.agg #[.int .i64 0,.string ByteArray.empty,.int .i64 0,.int .i64 0],some [.int .i64,.string,.int .i64,.int .i64]⟩:=rfl
theorem Z38:nilsOf T 4 38=[none,none,none,none]:=rfl
theorem D38_0:fOff D38 0=some (0,3):=rfl
theorem D38_1:fOff D38 1=some (1,9):=rfl
theorem D38_2:fOff D38 2=some (2,2):=rfl
theorem D38_3:fOff D38 3=some (3,3):=rfl
theorem T39:T 39=some ⟨.slice 38,1,24,.slice none 0 0,none⟩:=rfl
theorem Z39:nilsOf T 4 39=[some 4]:=rfl
theorem T40:T 40=some ⟨.slice 42,1,24,.slice none 0 0,none⟩:=rfl
theorem Z40:nilsOf T 4 40=[some 8]:=rfl
theorem T42:T 42=some ⟨D42,8,112,.agg #[.int .i64 0,.string ByteArray.empty,.int .i64 0,.string ByteArray.empty,.int .i64 0,.int .i64 0,.slice none 0 0,.slice none 0 0],none⟩:=rfl
theorem Z42:nilsOf T 4 42=[none,none,none,none,none,none,some 4,some 8]:=rfl
theorem D42_0:fOff D42 0=some (0,3):=rfl
theorem D42_1:fOff D42 1=some (1,9):=rfl
theorem D42_2:fOff D42 2=some (2,38):=rfl
theorem D42_3:fOff D42 3=some (6,39):=rfl
theorem D42_4:fOff D42 4=some (7,40):=rfl
theorem T45:T 45=some ⟨.slice 54,1,24,.slice none 0 0,none⟩:=rfl
theorem Z45:nilsOf T 4 45=[some 2]:=rfl
theorem T46:T 46=some ⟨.slice 9,1,24,.slice none 0 0,none⟩:=rfl
theorem Z46:nilsOf T 4 46=[some 1]:=rfl
theorem T47:T 47=some ⟨.slice 65,1,24,.slice none 0 0,none⟩:=rfl
theorem Z47:nilsOf T 4 47=[some 2]:=rfl
theorem T48:T 48=some ⟨.slice 60,1,24,.slice none 0 0,none⟩:=rfl
theorem Z48:nilsOf T 4 48=[some 3]:=rfl
theorem T50:T 50=some ⟨D50,17,280,.agg #[.int .i64 0,.int .i64 0,.string ByteArray.empty,.int .i64 0,.string ByteArray.empty,.int .i64 0,.bool false,.slice none 0 0,.slice none 0 0,.slice none 0 0,.int .i64 0,.slice none 0 0,.slice none 0 0,.slice none 0 0,.slice none 0 0,.int .i64 0,.slice none 0 0],none⟩:=rfl
theorem Z50:nilsOf T 4 50=[none,none,none,none,none,none,none,some 4,some 8,some 2,none,some 1,some 3,some 1,some 2,none,some 3]:=rfl
theorem D50_0:fOff D50 0=some (0,3):=rfl
theorem D50_1:fOff D50 1=some (1,31):=rfl
theorem D50_2:fOff D50 2=some (9,45):=rfl
theorem D50_3:fOff D50 3=some (10,3):=rfl
theorem D50_4:fOff D50 4=some (11,46):=rfl
theorem D50_5:fOff D50 5=some (12,25):=rfl
theorem D50_6:fOff D50 6=some (14,47):=rfl
theorem D50_7:fOff D50 7=some (15,3):=rfl
theorem D50_8:fOff D50 8=some (16,48):=rfl
theorem T52:T 52=some ⟨D52,3,32,.agg #[.string ByteArray.empty,.int .i64 0,.bool false],none⟩:=rfl
theorem Z52:nilsOf T 4 52=[none,none,none]:=rfl
theorem D52_0:fOff D52 0=some (0,9):=rfl
theorem D52_1:fOff D52 1=some (1,3):=rfl
theorem D52_2:fOff D52 2=some (2,4):=rfl
theorem T54:T 54=some ⟨D54,2,24,.agg #[.string ByteArray.empty,.bool false],none⟩:=rfl
theorem Z54:nilsOf T 4 54=[none,none]:=rfl
theorem D54_0:fOff D54 0=some (0,9):=rfl
theorem D54_1:fOff D54 1=some (1,4):=rfl
theorem T60:T 60=some ⟨D60,3,40,.agg #[.int .i64 0,.string ByteArray.empty,.string ByteArray.empty],none⟩:=rfl
theorem Z60:nilsOf T 4 60=[none,none,none]:=rfl
theorem D60_0:fOff D60 0=some (0,3):=rfl
theorem D60_1:fOff D60 1=some (1,9):=rfl
theorem D60_2:fOff D60 2=some (2,9):=rfl
theorem T65:T 65=some ⟨D65,2,32,.agg #[.string ByteArray.empty,.string ByteArray.empty],none⟩:=rfl
theorem Z65:nilsOf T 4 65=[none,none]:=rfl
theorem D65_0:fOff D65 0=some (0,9):=rfl
theorem D65_1:fOff D65 1=some (1,9):=rfl
theorem T68:T 68=some ⟨.slice 50,1,24,.slice none 0 0,none⟩:=rfl
theorem Z68:nilsOf T 4 68=[some 17]:=rfl
theorem T71:T 71=some ⟨.slice 136,1,24,.slice none 0 0,none⟩:=rfl
theorem Z71:nilsOf T 4 71=[some 3]:=rfl
theorem T72:T 72=some ⟨.slice 39,1,24,.slice none 0 0,none⟩:=rfl
theorem Z72:nilsOf T 4 72=[some 1]:=rfl
theorem T74:T 74=some ⟨D74,2,48,.agg #[.slice none 0 0,.slice none 0 0],none⟩:=rfl
theorem Z74:nilsOf T 4 74=[some 3,some 1]:=rfl
theorem D74_0:fOff D74 0=some (0,71):=rfl
theorem D74_1:fOff D74 1=some (1,72):=rfl
theorem T78:T 78=some ⟨.slice 190,1,24,.slice none 0 0,none⟩:=rfl
theorem Z78:nilsOf T 4 78=[some 2]:=rfl
theorem T79:T 79=some ⟨.slice 146,1,24,.slice none 0 0,none⟩:=rfl
theorem Z79:nilsOf T 4 79=[some 2]:=rfl
theorem T80:T 80=some ⟨.slice 195,1,24,.slice none 0 0,none⟩:=rfl
theorem Z80:nilsOf T 4 80=[some 3]:=rfl
theorem T82:T 82=some ⟨D82,17,280,.agg #[.int .i64 0,.int .i64 0,.string ByteArray.empty,.int .i64 0,.string ByteArray.empty,.int .i64 0,.int .i64 0,.slice none 0 0,.slice none 0 0,.slice none 0 0,.int .i64 0,.slice none 0 0,.slice none 0 0,.slice none 0 0,.slice none 0 0,.int .i64 0,.slice none 0 0],none⟩:=rfl
theorem Z82:nilsOf T 4 82=[none,none,none,none,none,none,none,some 4,some 8,some 2,none,some 1,some 3,some 1,some 2,none,some 3]:=rfl
theorem D82_0:fOff D82 0=some (0,3):=rfl
theorem D82_1:fOff D82 1=some (1,42):=rfl
theorem D82_2:fOff D82 2=some (9,78):=rfl
theorem D82_3:fOff D82 3=some (10,3):=rfl
theorem D82_4:fOff D82 4=some (11,46):=rfl
theorem D82_5:fOff D82 5=some (12,74):=rfl
theorem D82_6:fOff D82 6=some (14,79):=rfl
theorem D82_7:fOff D82 7=some (15,3):=rfl
theorem D82_8:fOff D82 8=some (16,80):=rfl
theorem T90:T 90=some ⟨.slice 82,1,24,.slice none 0 0,none⟩:=rfl
theorem Z90:nilsOf T 4 90=[some 17]:=rfl
theorem T136:T 136=some ⟨D136,3,32,.agg #[.string ByteArray.empty,.int .i64 0,.int .i64 0],some [.string,.int .i64,.int .i64]⟩:=rfl
theorem Z136:nilsOf T 4 136=[none,none,none]:=rfl
theorem D136_0:fOff D136 0=some (0,9):=rfl
theorem D136_1:fOff D136 1=some (1,3):=rfl
theorem D136_2:fOff D136 2=some (2,3):=rfl
theorem T146:T 146=some ⟨D146,2,32,.agg #[.string ByteArray.empty,.string ByteArray.empty],none⟩:=rfl
theorem Z146:nilsOf T 4 146=[none,none]:=rfl
theorem D146_0:fOff D146 0=some (0,9):=rfl
theorem D146_1:fOff D146 1=some (1,9):=rfl
theorem T151:T 151=some ⟨.map 9 4,1,8,.map none,none⟩:=rfl
theorem Z151:nilsOf T 4 151=[none]:=rfl
theorem T160:T 160=some ⟨.slice 220,1,24,.slice none 0 0,none⟩:=rfl
theorem Z160:nilsOf T 4 160=[some 2]:=rfl
theorem T167:T 167=some ⟨.slice 3,1,24,.slice none 0 0,none⟩:=rfl
theorem Z167:nilsOf T 4 167=[some 1]:=rfl
theorem T173:T 173=some ⟨.map 9 167,1,8,.map none,none⟩:=rfl
theorem Z173:nilsOf T 4 173=[none]:=rfl
theorem T181:T 181=some ⟨.slice 23,1,24,.slice none 0 0,none⟩:=rfl
theorem Z181:nilsOf T 4 181=[some 1]:=rfl
theorem T187:T 187=some ⟨.slice 4,1,24,.slice none 0 0,none⟩:=rfl
theorem Z187:nilsOf T 4 187=[some 1]:=rfl
theorem T190:T 190=some ⟨D190,2,24,.agg #[.string ByteArray.empty,.int .i64 0],none⟩:=rfl
theorem Z190:nilsOf T 4 190=[none,none]:=rfl
theorem D190_0:fOff D190 0=some (0,9):=rfl
theorem D190_1:fOff D190 1=some (1,3):=rfl
theorem T195:T 195=some ⟨D195,3,40,.agg #[.int .i64 0,.string ByteArray.empty,.string ByteArray.empty],none⟩:=rfl
theorem Z195:nilsOf T 4 195=[none,none,none]:=rfl
theorem D195_0:fOff D195 0=some (0,3):=rfl
theorem D195_1:fOff D195 1=some (1,9):=rfl
theorem D195_2:fOff D195 2=some (2,9):=rfl
theorem T199:T 199=some ⟨.slice 72,1,24,.slice none 0 0,none⟩:=rfl
theorem Z199:nilsOf T 4 199=[some 1]:=rfl
theorem T220:T 220=some ⟨D220,2,16,.agg #[.int .i64 0,.bool false],none⟩:=rfl
theorem Z220:nilsOf T 4 220=[none,none]:=rfl
theorem D220_0:fOff D220 0=some (0,3):=rfl
theorem D220_1:fOff D220 1=some (1,4):=rfl
theorem T224:T 224=some ⟨.slice 5,1,24,.slice none 0 0,none⟩:=rfl
theorem Z224:nilsOf T 4 224=[some 1]:=rfl
theorem T231:T 231=some ⟨.pointer 270,1,8,.pointer none,none⟩:=rfl
theorem Z231:nilsOf T 4 231=[none]:=rfl
theorem T235:T 235=some ⟨.map 9 3,1,8,.map none,none⟩:=rfl
theorem Z235:nilsOf T 4 235=[none]:=rfl
theorem T239:T 239=some ⟨.slice 2,1,24,.slice none 0 0,none⟩:=rfl
theorem Z239:nilsOf T 4 239=[some 1]:=rfl
theorem T270:T 270=some ⟨D270,2,32,.agg #[.slice none 0 0,.map none],none⟩:=rfl
theorem Z270:nilsOf T 4 270=[some 1,none]:=rfl
theorem D270_0:fOff D270 0=some (0,46):=rfl
theorem D270_1:fOff D270 1=some (1,235):=rfl
theorem T271:T 271=some ⟨.int .u64,1,8,.int .u64 0,none⟩:=rfl
theorem Z271:nilsOf T 4 271=[none]:=rfl
theorem T274:T 274=some ⟨.int .u64,1,8,.int .u64 0,none⟩:=rfl
theorem Z274:nilsOf T 4 274=[none]:=rfl
theorem T287:T 287=some ⟨.array 24 5,24,24,.agg #[.int .u8 0,.int .u8 0,.int .u8 0,.int .u8 0,.int .u8 0,.int .u8 0,.int .u8 0,.int .u8 0,.int .u8 0,.int .u8 0,.int .u8 0,.int .u8 0,.int .u8 0,.int .u8 0,.int .u8 0,.int .u8 0,.int .u8 0,.int .u8 0,.int .u8 0,.int .u8 0,.int .u8 0,.int .u8 0,.int .u8 0,.int .u8 0],none⟩:=rfl
theorem Z287:nilsOf T 4 287=[none,none,none,none,none,none,none,none,none,none,none,none,none,none,none,none,none,none,none,none,none,none,none,none]:=rfl
theorem T293:T 293=some ⟨.array 20 271,20,160,.agg #[.int .u64 0,.int .u64 0,.int .u64 0,.int .u64 0,.int .u64 0,.int .u64 0,.int .u64 0,.int .u64 0,.int .u64 0,.int .u64 0,.int .u64 0,.int .u64 0,.int .u64 0,.int .u64 0,.int .u64 0,.int .u64 0,.int .u64 0,.int .u64 0,.int .u64 0,.int .u64 0],none⟩:=rfl
theorem Z293:nilsOf T 4 293=[none,none,none,none,none,none,none,none,none,none,none,none,none,none,none,none,none,none,none,none]:=rfl
theorem T294:T 294=some ⟨.int .u32,1,4,.int .u32 0,none⟩:=rfl
theorem Z294:nilsOf T 4 294=[none]:=rfl
theorem T295:T 295=some ⟨.array 65 5,65,65,.agg #[.int .u8 0,.int .u8 0,.int .u8 0,.int .u8 0,.int .u8 0,.int .u8 0,.int .u8 0,.int .u8 0,.int .u8 0,.int .u8 0,.int .u8 0,.int .u8 0,.int .u8 0,.int .u8 0,.int .u8 0,.int .u8 0,.int .u8 0,.int .u8 0,.int .u8 0,.int .u8 0,.int .u8 0,.int .u8 0,.int .u8 0,.int .u8 0,.int .u8 0,.int .u8 0,.int .u8 0,.int .u8 0,.int .u8 0,.int .u8 0,.int .u8 0,.int .u8 0,.int .u8 0,.int .u8 0,.int .u8 0,.int .u8 0,.int .u8 0,.int .u8 0,.int .u8 0,.int .u8 0,.int .u8 0,.int .u8 0,.int .u8 0,.int .u8 0,.int .u8 0,.int .u8 0,.int .u8 0,.int .u8 0,.int .u8 0,.int .u8 0,.int .u8 0,.int .u8 0,.int .u8 0,.int .u8 0,.int .u8 0,.int .u8 0,.int .u8 0,.int .u8 0,.int .u8 0,.int .u8 0,.int .u8 0,.int .u8 0,.int .u8 0,.int .u8 0,.int .u8 0],none⟩:=rfl
theorem Z295:nilsOf T 4 295=[none,none,none,none,none,none,none,none,none,none,none,none,none,none,none,none,none,none,none,none,none,none,none,none,none,none,none,none,none,none,none,none,none,none,none,none,none,none,none,none,none,none,none,none,none,none,none,none,none,none,none,none,none,none,none,none,none,none,none,none,none,none,none,none,none]:=rfl
theorem T298:T 298=some ⟨.array 32 5,32,32,.agg #[.int .u8 0,.int .u8 0,.int .u8 0,.int .u8 0,.int .u8 0,.int .u8 0,.int .u8 0,.int .u8 0,.int .u8 0,.int .u8 0,.int .u8 0,.int .u8 0,.int .u8 0,.int .u8 0,.int .u8 0,.int .u8 0,.int .u8 0,.int .u8 0,.int .u8 0,.int .u8 0,.int .u8 0,.int .u8 0,.int .u8 0,.int .u8 0,.int .u8 0,.int .u8 0,.int .u8 0,.int .u8 0,.int .u8 0,.int .u8 0,.int .u8 0,.int .u8 0],none⟩:=rfl
theorem Z298:nilsOf T 4 298=[none,none,none,none,none,none,none,none,none,none,none,none,none,none,none,none,none,none,none,none,none,none,none,none,none,none,none,none,none,none,none,none]:=rfl
theorem T299:T 299=some ⟨.array 64 5,64,64,.agg #[.int .u8 0,.int .u8 0,.int .u8 0,.int .u8 0,.int .u8 0,.int .u8 0,.int .u8 0,.int .u8 0,.int .u8 0,.int .u8 0,.int .u8 0,.int .u8 0,.int .u8 0,.int .u8 0,.int .u8 0,.int .u8 0,.int .u8 0,.int .u8 0,.int .u8 0,.int .u8 0,.int .u8 0,.int .u8 0,.int .u8 0,.int .u8 0,.int .u8 0,.int .u8 0,.int .u8 0,.int .u8 0,.int .u8 0,.int .u8 0,.int .u8 0,.int .u8 0,.int .u8 0,.int .u8 0,.int .u8 0,.int .u8 0,.int .u8 0,.int .u8 0,.int .u8 0,.int .u8 0,.int .u8 0,.int .u8 0,.int .u8 0,.int .u8 0,.int .u8 0,.int .u8 0,.int .u8 0,.int .u8 0,.int .u8 0,.int .u8 0,.int .u8 0,.int .u8 0,.int .u8 0,.int .u8 0,.int .u8 0,.int .u8 0,.int .u8 0,.int .u8 0,.int .u8 0,.int .u8 0,.int .u8 0,.int .u8 0,.int .u8 0,.int .u8 0],none⟩:=rfl
theorem Z299:nilsOf T 4 299=[none,none,none,none,none,none,none,none,none,none,none,none,none,none,none,none,none,none,none,none,none,none,none,none,none,none,none,none,none,none,none,none,none,none,none,none,none,none,none,none,none,none,none,none,none,none,none,none,none,none,none,none,none,none,none,none,none,none,none,none,none,none,none,none]:=rfl
theorem ok2:okTI Go.Proofs.Tryz.prog 2 ⟨.int .i64,1,8,.int .i64 0,none⟩:=⟨by rfl,⟨_,by rfl,rfl,rfl,rfl⟩,(fun _ h=>by cases h),by decide⟩
theorem ok3:okTI Go.Proofs.Tryz.prog 3 ⟨.int .i64,1,8,.int .i64 0,none⟩:=⟨by rfl,⟨_,by rfl,rfl,rfl,rfl⟩,(fun _ h=>by cases h),by decide⟩
theorem ok4:okTI Go.Proofs.Tryz.prog 4 ⟨.bool,1,1,.bool false,none⟩:=⟨by rfl,⟨_,by rfl,rfl,rfl,rfl⟩,(fun _ h=>by cases h),by decide⟩
theorem ok5:okTI Go.Proofs.Tryz.prog 5 ⟨.int .u8,1,1,.int .u8 0,none⟩:=⟨by rfl,⟨_,by rfl,rfl,rfl,rfl⟩,(fun _ h=>by cases h),by decide⟩
theorem ok9:okTI Go.Proofs.Tryz.prog 9 ⟨.string,1,16,.string ByteArray.empty,none⟩:=⟨by rfl,⟨_,by rfl,rfl,rfl,rfl⟩,(fun _ h=>by cases h),by decide⟩
theorem ok22:okTI Go.Proofs.Tryz.prog 22 ⟨.slice 52,1,24,.slice none 0 0,none⟩:=⟨by rfl,⟨_,by rfl,rfl,rfl,rfl⟩,(fun _ h=>by cases h),by decide⟩
theorem ok23:okTI Go.Proofs.Tryz.prog 23 ⟨.slice 28,1,24,.slice none 0 0,none⟩:=⟨by rfl,⟨_,by rfl,rfl,rfl,rfl⟩,(fun _ h=>by cases h),by decide⟩
theorem ok25:okTI Go.Proofs.Tryz.prog 25 ⟨D25,2,48,.agg #[.slice none 0 0,.slice none 0 0],none⟩:=⟨by rfl,⟨_,by rfl,rfl,rfl,rfl⟩,(fun _ h=>by cases h),by decide⟩
theorem ok27:okTI Go.Proofs.Tryz.prog 27 ⟨D27,4,40,.agg #[.int .i64 0,.string ByteArray.empty,.int .i64 0,.bool false],some [.int .i64,.string,.int .i64,.bool]⟩:=⟨by rfl,⟨_,by rfl,rfl,rfl,rfl⟩,(fun _ h=>by
  injection h with h;subst h
  refine ⟨Go.Proofs.Tryz.stoodInHeld27,Go.Proofs.Tryz.eqGuardType27,_,rfl,rfl,fun j f hj=>?_⟩
  match j,hj with
  | 0,hj=>injection hj with hj;subst hj;exact ⟨rfl,by decide,by rfl⟩
  | 1,hj=>injection hj with hj;subst hj;exact ⟨rfl,by decide,by rfl⟩
  | 2,hj=>injection hj with hj;subst hj;exact ⟨rfl,by decide,by rfl⟩
  | 3,hj=>injection hj with hj;subst hj;exact ⟨rfl,by decide,by rfl⟩
  | k+4,hj=>simp at hj),by decide⟩
theorem ok28:okTI Go.Proofs.Tryz.prog 28 ⟨.slice 27,1,24,.slice none 0 0,none⟩:=⟨by rfl,⟨_,by rfl,rfl,rfl,rfl⟩,(fun _ h=>by cases h),by decide⟩
theorem ok29:okTI Go.Proofs.Tryz.prog 29 ⟨.slice 31,1,24,.slice none 0 0,none⟩:=⟨by rfl,⟨_,by rfl,rfl,rfl,rfl⟩,(fun _ h=>by cases h),by decide⟩
theorem ok31:okTI Go.Proofs.Tryz.prog 31 ⟨D31,8,112,.agg #[.int .i64 0,.string ByteArray.empty,.int .i64 0,.string ByteArray.empty,.int .i64 0,.bool false,.slice none 0 0,.slice none 0 0],none⟩:=⟨by rfl,⟨_,by rfl,rfl,rfl,rfl⟩,(fun _ h=>by cases h),by decide⟩
theorem ok34:okTI Go.Proofs.Tryz.prog 34 ⟨.int .i64,1,8,.int .i64 0,none⟩:=⟨by rfl,⟨_,by rfl,rfl,rfl,rfl⟩,(fun _ h=>by cases h),by decide⟩
theorem ok38:okTI Go.Proofs.Tryz.prog 38 ⟨D38,4,40,.agg #[.int .i64 0,.string ByteArray.empty,.int .i64 0,.int .i64 0],some [.int .i64,.string,.int .i64,.int .i64]⟩:=⟨by rfl,⟨_,by rfl,rfl,rfl,rfl⟩,(fun _ h=>by
  injection h with h;subst h
  refine ⟨Go.Proofs.Tryz.stoodInHeld38,Go.Proofs.Tryz.eqGuardType38,_,rfl,rfl,fun j f hj=>?_⟩
  match j,hj with
  | 0,hj=>injection hj with hj;subst hj;exact ⟨rfl,by decide,by rfl⟩
  | 1,hj=>injection hj with hj;subst hj;exact ⟨rfl,by decide,by rfl⟩
  | 2,hj=>injection hj with hj;subst hj;exact ⟨rfl,by decide,by rfl⟩
  | 3,hj=>injection hj with hj;subst hj;exact ⟨rfl,by decide,by rfl⟩
  | k+4,hj=>simp at hj),by decide⟩
theorem ok39:okTI Go.Proofs.Tryz.prog 39 ⟨.slice 38,1,24,.slice none 0 0,none⟩:=⟨by rfl,⟨_,by rfl,rfl,rfl,rfl⟩,(fun _ h=>by cases h),by decide⟩
theorem ok40:okTI Go.Proofs.Tryz.prog 40 ⟨.slice 42,1,24,.slice none 0 0,none⟩:=⟨by rfl,⟨_,by rfl,rfl,rfl,rfl⟩,(fun _ h=>by cases h),by decide⟩
theorem ok42:okTI Go.Proofs.Tryz.prog 42 ⟨D42,8,112,.agg #[.int .i64 0,.string ByteArray.empty,.int .i64 0,.string ByteArray.empty,.int .i64 0,.int .i64 0,.slice none 0 0,.slice none 0 0],none⟩:=⟨by rfl,⟨_,by rfl,rfl,rfl,rfl⟩,(fun _ h=>by cases h),by decide⟩
theorem ok45:okTI Go.Proofs.Tryz.prog 45 ⟨.slice 54,1,24,.slice none 0 0,none⟩:=⟨by rfl,⟨_,by rfl,rfl,rfl,rfl⟩,(fun _ h=>by cases h),by decide⟩
theorem ok46:okTI Go.Proofs.Tryz.prog 46 ⟨.slice 9,1,24,.slice none 0 0,none⟩:=⟨by rfl,⟨_,by rfl,rfl,rfl,rfl⟩,(fun _ h=>by cases h),by decide⟩
theorem ok47:okTI Go.Proofs.Tryz.prog 47 ⟨.slice 65,1,24,.slice none 0 0,none⟩:=⟨by rfl,⟨_,by rfl,rfl,rfl,rfl⟩,(fun _ h=>by cases h),by decide⟩
theorem ok48:okTI Go.Proofs.Tryz.prog 48 ⟨.slice 60,1,24,.slice none 0 0,none⟩:=⟨by rfl,⟨_,by rfl,rfl,rfl,rfl⟩,(fun _ h=>by cases h),by decide⟩
theorem ok50:okTI Go.Proofs.Tryz.prog 50 ⟨D50,17,280,.agg #[.int .i64 0,.int .i64 0,.string ByteArray.empty,.int .i64 0,.string ByteArray.empty,.int .i64 0,.bool false,.slice none 0 0,.slice none 0 0,.slice none 0 0,.int .i64 0,.slice none 0 0,.slice none 0 0,.slice none 0 0,.slice none 0 0,.int .i64 0,.slice none 0 0],none⟩:=⟨by rfl,⟨_,by rfl,rfl,rfl,rfl⟩,(fun _ h=>by cases h),by decide⟩
theorem ok52:okTI Go.Proofs.Tryz.prog 52 ⟨D52,3,32,.agg #[.string ByteArray.empty,.int .i64 0,.bool false],none⟩:=⟨by rfl,⟨_,by rfl,rfl,rfl,rfl⟩,(fun _ h=>by cases h),by decide⟩
theorem ok54:okTI Go.Proofs.Tryz.prog 54 ⟨D54,2,24,.agg #[.string ByteArray.empty,.bool false],none⟩:=⟨by rfl,⟨_,by rfl,rfl,rfl,rfl⟩,(fun _ h=>by cases h),by decide⟩
theorem ok60:okTI Go.Proofs.Tryz.prog 60 ⟨D60,3,40,.agg #[.int .i64 0,.string ByteArray.empty,.string ByteArray.empty],none⟩:=⟨by rfl,⟨_,by rfl,rfl,rfl,rfl⟩,(fun _ h=>by cases h),by decide⟩
theorem ok65:okTI Go.Proofs.Tryz.prog 65 ⟨D65,2,32,.agg #[.string ByteArray.empty,.string ByteArray.empty],none⟩:=⟨by rfl,⟨_,by rfl,rfl,rfl,rfl⟩,(fun _ h=>by cases h),by decide⟩
theorem ok68:okTI Go.Proofs.Tryz.prog 68 ⟨.slice 50,1,24,.slice none 0 0,none⟩:=⟨by rfl,⟨_,by rfl,rfl,rfl,rfl⟩,(fun _ h=>by cases h),by decide⟩
theorem ok71:okTI Go.Proofs.Tryz.prog 71 ⟨.slice 136,1,24,.slice none 0 0,none⟩:=⟨by rfl,⟨_,by rfl,rfl,rfl,rfl⟩,(fun _ h=>by cases h),by decide⟩
theorem ok72:okTI Go.Proofs.Tryz.prog 72 ⟨.slice 39,1,24,.slice none 0 0,none⟩:=⟨by rfl,⟨_,by rfl,rfl,rfl,rfl⟩,(fun _ h=>by cases h),by decide⟩
theorem ok74:okTI Go.Proofs.Tryz.prog 74 ⟨D74,2,48,.agg #[.slice none 0 0,.slice none 0 0],none⟩:=⟨by rfl,⟨_,by rfl,rfl,rfl,rfl⟩,(fun _ h=>by cases h),by decide⟩
theorem ok78:okTI Go.Proofs.Tryz.prog 78 ⟨.slice 190,1,24,.slice none 0 0,none⟩:=⟨by rfl,⟨_,by rfl,rfl,rfl,rfl⟩,(fun _ h=>by cases h),by decide⟩
theorem ok79:okTI Go.Proofs.Tryz.prog 79 ⟨.slice 146,1,24,.slice none 0 0,none⟩:=⟨by rfl,⟨_,by rfl,rfl,rfl,rfl⟩,(fun _ h=>by cases h),by decide⟩
theorem ok80:okTI Go.Proofs.Tryz.prog 80 ⟨.slice 195,1,24,.slice none 0 0,none⟩:=⟨by rfl,⟨_,by rfl,rfl,rfl,rfl⟩,(fun _ h=>by cases h),by decide⟩
theorem ok82:okTI Go.Proofs.Tryz.prog 82 ⟨D82,17,280,.agg #[.int .i64 0,.int .i64 0,.string ByteArray.empty,.int .i64 0,.string ByteArray.empty,.int .i64 0,.int .i64 0,.slice none 0 0,.slice none 0 0,.slice none 0 0,.int .i64 0,.slice none 0 0,.slice none 0 0,.slice none 0 0,.slice none 0 0,.int .i64 0,.slice none 0 0],none⟩:=⟨by rfl,⟨_,by rfl,rfl,rfl,rfl⟩,(fun _ h=>by cases h),by decide⟩
theorem ok90:okTI Go.Proofs.Tryz.prog 90 ⟨.slice 82,1,24,.slice none 0 0,none⟩:=⟨by rfl,⟨_,by rfl,rfl,rfl,rfl⟩,(fun _ h=>by cases h),by decide⟩
theorem ok136:okTI Go.Proofs.Tryz.prog 136 ⟨D136,3,32,.agg #[.string ByteArray.empty,.int .i64 0,.int .i64 0],some [.string,.int .i64,.int .i64]⟩:=⟨by rfl,⟨_,by rfl,rfl,rfl,rfl⟩,(fun _ h=>by
  injection h with h;subst h
  refine ⟨Go.Proofs.Tryz.stoodInHeld136,Go.Proofs.Tryz.eqGuardType136,_,rfl,rfl,fun j f hj=>?_⟩
  match j,hj with
  | 0,hj=>injection hj with hj;subst hj;exact ⟨rfl,by decide,by rfl⟩
  | 1,hj=>injection hj with hj;subst hj;exact ⟨rfl,by decide,by rfl⟩
  | 2,hj=>injection hj with hj;subst hj;exact ⟨rfl,by decide,by rfl⟩
  | k+3,hj=>simp at hj),by decide⟩
theorem ok146:okTI Go.Proofs.Tryz.prog 146 ⟨D146,2,32,.agg #[.string ByteArray.empty,.string ByteArray.empty],none⟩:=⟨by rfl,⟨_,by rfl,rfl,rfl,rfl⟩,(fun _ h=>by cases h),by decide⟩
theorem ok151:okTI Go.Proofs.Tryz.prog 151 ⟨.map 9 4,1,8,.map none,none⟩:=⟨by rfl,⟨_,by rfl,rfl,rfl,rfl⟩,(fun _ h=>by cases h),by decide⟩
theorem ok160:okTI Go.Proofs.Tryz.prog 160 ⟨.slice 220,1,24,.slice none 0 0,none⟩:=⟨by rfl,⟨_,by rfl,rfl,rfl,rfl⟩,(fun _ h=>by cases h),by decide⟩
theorem ok167:okTI Go.Proofs.Tryz.prog 167 ⟨.slice 3,1,24,.slice none 0 0,none⟩:=⟨by rfl,⟨_,by rfl,rfl,rfl,rfl⟩,(fun _ h=>by cases h),by decide⟩
theorem ok173:okTI Go.Proofs.Tryz.prog 173 ⟨.map 9 167,1,8,.map none,none⟩:=⟨by rfl,⟨_,by rfl,rfl,rfl,rfl⟩,(fun _ h=>by cases h),by decide⟩
theorem ok181:okTI Go.Proofs.Tryz.prog 181 ⟨.slice 23,1,24,.slice none 0 0,none⟩:=⟨by rfl,⟨_,by rfl,rfl,rfl,rfl⟩,(fun _ h=>by cases h),by decide⟩
theorem ok187:okTI Go.Proofs.Tryz.prog 187 ⟨.slice 4,1,24,.slice none 0 0,none⟩:=⟨by rfl,⟨_,by rfl,rfl,rfl,rfl⟩,(fun _ h=>by cases h),by decide⟩
theorem ok190:okTI Go.Proofs.Tryz.prog 190 ⟨D190,2,24,.agg #[.string ByteArray.empty,.int .i64 0],none⟩:=⟨by rfl,⟨_,by rfl,rfl,rfl,rfl⟩,(fun _ h=>by cases h),by decide⟩
theorem ok195:okTI Go.Proofs.Tryz.prog 195 ⟨D195,3,40,.agg #[.int .i64 0,.string ByteArray.empty,.string ByteArray.empty],none⟩:=⟨by rfl,⟨_,by rfl,rfl,rfl,rfl⟩,(fun _ h=>by cases h),by decide⟩
theorem ok199:okTI Go.Proofs.Tryz.prog 199 ⟨.slice 72,1,24,.slice none 0 0,none⟩:=⟨by rfl,⟨_,by rfl,rfl,rfl,rfl⟩,(fun _ h=>by cases h),by decide⟩
theorem ok220:okTI Go.Proofs.Tryz.prog 220 ⟨D220,2,16,.agg #[.int .i64 0,.bool false],none⟩:=⟨by rfl,⟨_,by rfl,rfl,rfl,rfl⟩,(fun _ h=>by cases h),by decide⟩
theorem ok224:okTI Go.Proofs.Tryz.prog 224 ⟨.slice 5,1,24,.slice none 0 0,none⟩:=⟨by rfl,⟨_,by rfl,rfl,rfl,rfl⟩,(fun _ h=>by cases h),by decide⟩
theorem ok231:okTI Go.Proofs.Tryz.prog 231 ⟨.pointer 270,1,8,.pointer none,none⟩:=⟨by rfl,⟨_,by rfl,rfl,rfl,rfl⟩,(fun _ h=>by cases h),by decide⟩
theorem ok235:okTI Go.Proofs.Tryz.prog 235 ⟨.map 9 3,1,8,.map none,none⟩:=⟨by rfl,⟨_,by rfl,rfl,rfl,rfl⟩,(fun _ h=>by cases h),by decide⟩
theorem ok239:okTI Go.Proofs.Tryz.prog 239 ⟨.slice 2,1,24,.slice none 0 0,none⟩:=⟨by rfl,⟨_,by rfl,rfl,rfl,rfl⟩,(fun _ h=>by cases h),by decide⟩
theorem ok270:okTI Go.Proofs.Tryz.prog 270 ⟨D270,2,32,.agg #[.slice none 0 0,.map none],none⟩:=⟨by rfl,⟨_,by rfl,rfl,rfl,rfl⟩,(fun _ h=>by cases h),by decide⟩
theorem ok271:okTI Go.Proofs.Tryz.prog 271 ⟨.int .u64,1,8,.int .u64 0,none⟩:=⟨by rfl,⟨_,by rfl,rfl,rfl,rfl⟩,(fun _ h=>by cases h),by decide⟩
theorem ok274:okTI Go.Proofs.Tryz.prog 274 ⟨.int .u64,1,8,.int .u64 0,none⟩:=⟨by rfl,⟨_,by rfl,rfl,rfl,rfl⟩,(fun _ h=>by cases h),by decide⟩
theorem ok287:okTI Go.Proofs.Tryz.prog 287 ⟨.array 24 5,24,24,.agg #[.int .u8 0,.int .u8 0,.int .u8 0,.int .u8 0,.int .u8 0,.int .u8 0,.int .u8 0,.int .u8 0,.int .u8 0,.int .u8 0,.int .u8 0,.int .u8 0,.int .u8 0,.int .u8 0,.int .u8 0,.int .u8 0,.int .u8 0,.int .u8 0,.int .u8 0,.int .u8 0,.int .u8 0,.int .u8 0,.int .u8 0,.int .u8 0],none⟩:=⟨by rfl,⟨_,by rfl,rfl,rfl,rfl⟩,(fun _ h=>by cases h),by decide⟩
theorem ok293:okTI Go.Proofs.Tryz.prog 293 ⟨.array 20 271,20,160,.agg #[.int .u64 0,.int .u64 0,.int .u64 0,.int .u64 0,.int .u64 0,.int .u64 0,.int .u64 0,.int .u64 0,.int .u64 0,.int .u64 0,.int .u64 0,.int .u64 0,.int .u64 0,.int .u64 0,.int .u64 0,.int .u64 0,.int .u64 0,.int .u64 0,.int .u64 0,.int .u64 0],none⟩:=⟨by rfl,⟨_,by rfl,rfl,rfl,rfl⟩,(fun _ h=>by cases h),by decide⟩
theorem ok294:okTI Go.Proofs.Tryz.prog 294 ⟨.int .u32,1,4,.int .u32 0,none⟩:=⟨by rfl,⟨_,by rfl,rfl,rfl,rfl⟩,(fun _ h=>by cases h),by decide⟩
theorem ok295:okTI Go.Proofs.Tryz.prog 295 ⟨.array 65 5,65,65,.agg #[.int .u8 0,.int .u8 0,.int .u8 0,.int .u8 0,.int .u8 0,.int .u8 0,.int .u8 0,.int .u8 0,.int .u8 0,.int .u8 0,.int .u8 0,.int .u8 0,.int .u8 0,.int .u8 0,.int .u8 0,.int .u8 0,.int .u8 0,.int .u8 0,.int .u8 0,.int .u8 0,.int .u8 0,.int .u8 0,.int .u8 0,.int .u8 0,.int .u8 0,.int .u8 0,.int .u8 0,.int .u8 0,.int .u8 0,.int .u8 0,.int .u8 0,.int .u8 0,.int .u8 0,.int .u8 0,.int .u8 0,.int .u8 0,.int .u8 0,.int .u8 0,.int .u8 0,.int .u8 0,.int .u8 0,.int .u8 0,.int .u8 0,.int .u8 0,.int .u8 0,.int .u8 0,.int .u8 0,.int .u8 0,.int .u8 0,.int .u8 0,.int .u8 0,.int .u8 0,.int .u8 0,.int .u8 0,.int .u8 0,.int .u8 0,.int .u8 0,.int .u8 0,.int .u8 0,.int .u8 0,.int .u8 0,.int .u8 0,.int .u8 0,.int .u8 0,.int .u8 0],none⟩:=⟨by rfl,⟨_,by rfl,rfl,rfl,rfl⟩,(fun _ h=>by cases h),by decide⟩
theorem ok298:okTI Go.Proofs.Tryz.prog 298 ⟨.array 32 5,32,32,.agg #[.int .u8 0,.int .u8 0,.int .u8 0,.int .u8 0,.int .u8 0,.int .u8 0,.int .u8 0,.int .u8 0,.int .u8 0,.int .u8 0,.int .u8 0,.int .u8 0,.int .u8 0,.int .u8 0,.int .u8 0,.int .u8 0,.int .u8 0,.int .u8 0,.int .u8 0,.int .u8 0,.int .u8 0,.int .u8 0,.int .u8 0,.int .u8 0,.int .u8 0,.int .u8 0,.int .u8 0,.int .u8 0,.int .u8 0,.int .u8 0,.int .u8 0,.int .u8 0],none⟩:=⟨by rfl,⟨_,by rfl,rfl,rfl,rfl⟩,(fun _ h=>by cases h),by decide⟩
theorem ok299:okTI Go.Proofs.Tryz.prog 299 ⟨.array 64 5,64,64,.agg #[.int .u8 0,.int .u8 0,.int .u8 0,.int .u8 0,.int .u8 0,.int .u8 0,.int .u8 0,.int .u8 0,.int .u8 0,.int .u8 0,.int .u8 0,.int .u8 0,.int .u8 0,.int .u8 0,.int .u8 0,.int .u8 0,.int .u8 0,.int .u8 0,.int .u8 0,.int .u8 0,.int .u8 0,.int .u8 0,.int .u8 0,.int .u8 0,.int .u8 0,.int .u8 0,.int .u8 0,.int .u8 0,.int .u8 0,.int .u8 0,.int .u8 0,.int .u8 0,.int .u8 0,.int .u8 0,.int .u8 0,.int .u8 0,.int .u8 0,.int .u8 0,.int .u8 0,.int .u8 0,.int .u8 0,.int .u8 0,.int .u8 0,.int .u8 0,.int .u8 0,.int .u8 0,.int .u8 0,.int .u8 0,.int .u8 0,.int .u8 0,.int .u8 0,.int .u8 0,.int .u8 0,.int .u8 0,.int .u8 0,.int .u8 0,.int .u8 0,.int .u8 0,.int .u8 0,.int .u8 0,.int .u8 0,.int .u8 0,.int .u8 0,.int .u8 0],none⟩:=⟨by rfl,⟨_,by rfl,rfl,rfl,rfl⟩,(fun _ h=>by cases h),by decide⟩
theorem okAll:okT Go.Proofs.Tryz.prog T:=by
 intro t i h
 unfold T at h
 split at h
 ·injection h with h;subst h;exact ok2
 ·injection h with h;subst h;exact ok3
 ·injection h with h;subst h;exact ok4
 ·injection h with h;subst h;exact ok5
 ·injection h with h;subst h;exact ok9
 ·injection h with h;subst h;exact ok22
 ·injection h with h;subst h;exact ok23
 ·injection h with h;subst h;exact ok25
 ·injection h with h;subst h;exact ok27
 ·injection h with h;subst h;exact ok28
 ·injection h with h;subst h;exact ok29
 ·injection h with h;subst h;exact ok31
 ·injection h with h;subst h;exact ok34
 ·injection h with h;subst h;exact ok38
 ·injection h with h;subst h;exact ok39
 ·injection h with h;subst h;exact ok40
 ·injection h with h;subst h;exact ok42
 ·injection h with h;subst h;exact ok45
 ·injection h with h;subst h;exact ok46
 ·injection h with h;subst h;exact ok47
 ·injection h with h;subst h;exact ok48
 ·injection h with h;subst h;exact ok50
 ·injection h with h;subst h;exact ok52
 ·injection h with h;subst h;exact ok54
 ·injection h with h;subst h;exact ok60
 ·injection h with h;subst h;exact ok65
 ·injection h with h;subst h;exact ok68
 ·injection h with h;subst h;exact ok71
 ·injection h with h;subst h;exact ok72
 ·injection h with h;subst h;exact ok74
 ·injection h with h;subst h;exact ok78
 ·injection h with h;subst h;exact ok79
 ·injection h with h;subst h;exact ok80
 ·injection h with h;subst h;exact ok82
 ·injection h with h;subst h;exact ok90
 ·injection h with h;subst h;exact ok136
 ·injection h with h;subst h;exact ok146
 ·injection h with h;subst h;exact ok151
 ·injection h with h;subst h;exact ok160
 ·injection h with h;subst h;exact ok167
 ·injection h with h;subst h;exact ok173
 ·injection h with h;subst h;exact ok181
 ·injection h with h;subst h;exact ok187
 ·injection h with h;subst h;exact ok190
 ·injection h with h;subst h;exact ok195
 ·injection h with h;subst h;exact ok199
 ·injection h with h;subst h;exact ok220
 ·injection h with h;subst h;exact ok224
 ·injection h with h;subst h;exact ok231
 ·injection h with h;subst h;exact ok235
 ·injection h with h;subst h;exact ok239
 ·injection h with h;subst h;exact ok270
 ·injection h with h;subst h;exact ok271
 ·injection h with h;subst h;exact ok274
 ·injection h with h;subst h;exact ok287
 ·injection h with h;subst h;exact ok293
 ·injection h with h;subst h;exact ok294
 ·injection h with h;subst h;exact ok295
 ·injection h with h;subst h;exact ok298
 ·injection h with h;subst h;exact ok299
 ·cases h
theorem Z0:nilsOf T 4 0=[]:=rfl
theorem Z1:nilsOf T 4 1=[]:=rfl
theorem Z6:nilsOf T 4 6=[]:=rfl
theorem Z7:nilsOf T 4 7=[]:=rfl
theorem Z8:nilsOf T 4 8=[]:=rfl
theorem Z10:nilsOf T 4 10=[]:=rfl
theorem Z11:nilsOf T 4 11=[]:=rfl
theorem Z12:nilsOf T 4 12=[]:=rfl
theorem Z13:nilsOf T 4 13=[]:=rfl
theorem Z14:nilsOf T 4 14=[]:=rfl
theorem Z15:nilsOf T 4 15=[]:=rfl
theorem Z16:nilsOf T 4 16=[]:=rfl
theorem Z17:nilsOf T 4 17=[]:=rfl
theorem Z18:nilsOf T 4 18=[]:=rfl
theorem Z19:nilsOf T 4 19=[]:=rfl
theorem Z20:nilsOf T 4 20=[]:=rfl
theorem Z21:nilsOf T 4 21=[]:=rfl
theorem Z24:nilsOf T 4 24=[]:=rfl
theorem Z26:nilsOf T 4 26=[]:=rfl
theorem Z30:nilsOf T 4 30=[]:=rfl
theorem Z32:nilsOf T 4 32=[]:=rfl
theorem Z33:nilsOf T 4 33=[]:=rfl
theorem Z35:nilsOf T 4 35=[]:=rfl
theorem Z36:nilsOf T 4 36=[]:=rfl
theorem Z37:nilsOf T 4 37=[]:=rfl
theorem Z41:nilsOf T 4 41=[]:=rfl
theorem Z43:nilsOf T 4 43=[]:=rfl
theorem Z44:nilsOf T 4 44=[]:=rfl
theorem Z49:nilsOf T 4 49=[]:=rfl
theorem Z51:nilsOf T 4 51=[]:=rfl
theorem Z53:nilsOf T 4 53=[]:=rfl
theorem Z55:nilsOf T 4 55=[]:=rfl
theorem Z56:nilsOf T 4 56=[]:=rfl
theorem Z57:nilsOf T 4 57=[]:=rfl
theorem Z58:nilsOf T 4 58=[]:=rfl
theorem Z59:nilsOf T 4 59=[]:=rfl
theorem Z61:nilsOf T 4 61=[]:=rfl
theorem Z62:nilsOf T 4 62=[]:=rfl
theorem Z63:nilsOf T 4 63=[]:=rfl
theorem Z64:nilsOf T 4 64=[]:=rfl
theorem Z66:nilsOf T 4 66=[]:=rfl
theorem Z67:nilsOf T 4 67=[]:=rfl
theorem Z69:nilsOf T 4 69=[]:=rfl
theorem Z70:nilsOf T 4 70=[]:=rfl
theorem Z73:nilsOf T 4 73=[]:=rfl
theorem Z75:nilsOf T 4 75=[]:=rfl
theorem Z76:nilsOf T 4 76=[]:=rfl
theorem Z77:nilsOf T 4 77=[]:=rfl
theorem Z81:nilsOf T 4 81=[]:=rfl
theorem Z83:nilsOf T 4 83=[]:=rfl
theorem Z84:nilsOf T 4 84=[]:=rfl
theorem Z85:nilsOf T 4 85=[]:=rfl
theorem Z86:nilsOf T 4 86=[]:=rfl
theorem Z87:nilsOf T 4 87=[]:=rfl
theorem Z88:nilsOf T 4 88=[]:=rfl
theorem Z89:nilsOf T 4 89=[]:=rfl
theorem Z91:nilsOf T 4 91=[]:=rfl
theorem Z92:nilsOf T 4 92=[]:=rfl
theorem Z93:nilsOf T 4 93=[]:=rfl
theorem Z94:nilsOf T 4 94=[]:=rfl
theorem Z95:nilsOf T 4 95=[]:=rfl
theorem Z96:nilsOf T 4 96=[]:=rfl
theorem Z97:nilsOf T 4 97=[]:=rfl
theorem Z98:nilsOf T 4 98=[]:=rfl
theorem Z99:nilsOf T 4 99=[]:=rfl
theorem Z100:nilsOf T 4 100=[]:=rfl
theorem Z101:nilsOf T 4 101=[]:=rfl
theorem Z102:nilsOf T 4 102=[]:=rfl
theorem Z103:nilsOf T 4 103=[]:=rfl
theorem Z104:nilsOf T 4 104=[]:=rfl
theorem Z105:nilsOf T 4 105=[]:=rfl
theorem Z106:nilsOf T 4 106=[]:=rfl
theorem Z107:nilsOf T 4 107=[]:=rfl
theorem Z108:nilsOf T 4 108=[]:=rfl
theorem Z109:nilsOf T 4 109=[]:=rfl
theorem Z110:nilsOf T 4 110=[]:=rfl
theorem Z111:nilsOf T 4 111=[]:=rfl
theorem Z112:nilsOf T 4 112=[]:=rfl
theorem Z113:nilsOf T 4 113=[]:=rfl
theorem Z114:nilsOf T 4 114=[]:=rfl
theorem Z115:nilsOf T 4 115=[]:=rfl
theorem Z116:nilsOf T 4 116=[]:=rfl
theorem Z117:nilsOf T 4 117=[]:=rfl
theorem Z118:nilsOf T 4 118=[]:=rfl
theorem Z119:nilsOf T 4 119=[]:=rfl
theorem Z120:nilsOf T 4 120=[]:=rfl
theorem Z121:nilsOf T 4 121=[]:=rfl
theorem Z122:nilsOf T 4 122=[]:=rfl
theorem Z123:nilsOf T 4 123=[]:=rfl
theorem Z124:nilsOf T 4 124=[]:=rfl
theorem Z125:nilsOf T 4 125=[]:=rfl
theorem Z126:nilsOf T 4 126=[]:=rfl
theorem Z127:nilsOf T 4 127=[]:=rfl
theorem Z128:nilsOf T 4 128=[]:=rfl
theorem Z129:nilsOf T 4 129=[]:=rfl
theorem Z130:nilsOf T 4 130=[]:=rfl
theorem Z131:nilsOf T 4 131=[]:=rfl
theorem Z132:nilsOf T 4 132=[]:=rfl
theorem Z133:nilsOf T 4 133=[]:=rfl
theorem Z134:nilsOf T 4 134=[]:=rfl
theorem Z135:nilsOf T 4 135=[]:=rfl
theorem Z137:nilsOf T 4 137=[]:=rfl
theorem Z138:nilsOf T 4 138=[]:=rfl
theorem Z139:nilsOf T 4 139=[]:=rfl
theorem Z140:nilsOf T 4 140=[]:=rfl
theorem Z141:nilsOf T 4 141=[]:=rfl
theorem Z142:nilsOf T 4 142=[]:=rfl
theorem Z143:nilsOf T 4 143=[]:=rfl
theorem Z144:nilsOf T 4 144=[]:=rfl
theorem Z145:nilsOf T 4 145=[]:=rfl
theorem Z147:nilsOf T 4 147=[]:=rfl
theorem Z148:nilsOf T 4 148=[]:=rfl
theorem Z149:nilsOf T 4 149=[]:=rfl
theorem Z150:nilsOf T 4 150=[]:=rfl
theorem Z152:nilsOf T 4 152=[]:=rfl
theorem Z153:nilsOf T 4 153=[]:=rfl
theorem Z154:nilsOf T 4 154=[]:=rfl
theorem Z155:nilsOf T 4 155=[]:=rfl
theorem Z156:nilsOf T 4 156=[]:=rfl
theorem Z157:nilsOf T 4 157=[]:=rfl
theorem Z158:nilsOf T 4 158=[]:=rfl
theorem Z159:nilsOf T 4 159=[]:=rfl
theorem Z161:nilsOf T 4 161=[]:=rfl
theorem Z162:nilsOf T 4 162=[]:=rfl
theorem Z163:nilsOf T 4 163=[]:=rfl
theorem Z164:nilsOf T 4 164=[]:=rfl
theorem Z165:nilsOf T 4 165=[]:=rfl
theorem Z166:nilsOf T 4 166=[]:=rfl
theorem Z168:nilsOf T 4 168=[]:=rfl
theorem Z169:nilsOf T 4 169=[]:=rfl
theorem Z170:nilsOf T 4 170=[]:=rfl
theorem Z171:nilsOf T 4 171=[]:=rfl
theorem Z172:nilsOf T 4 172=[]:=rfl
theorem Z174:nilsOf T 4 174=[]:=rfl
theorem Z175:nilsOf T 4 175=[]:=rfl
theorem Z176:nilsOf T 4 176=[]:=rfl
theorem Z177:nilsOf T 4 177=[]:=rfl
theorem Z178:nilsOf T 4 178=[]:=rfl
theorem Z179:nilsOf T 4 179=[]:=rfl
theorem Z180:nilsOf T 4 180=[]:=rfl
theorem Z182:nilsOf T 4 182=[]:=rfl
theorem Z183:nilsOf T 4 183=[]:=rfl
theorem Z184:nilsOf T 4 184=[]:=rfl
theorem Z185:nilsOf T 4 185=[]:=rfl
theorem Z186:nilsOf T 4 186=[]:=rfl
theorem Z188:nilsOf T 4 188=[]:=rfl
theorem Z189:nilsOf T 4 189=[]:=rfl
theorem Z191:nilsOf T 4 191=[]:=rfl
theorem Z192:nilsOf T 4 192=[]:=rfl
theorem Z193:nilsOf T 4 193=[]:=rfl
theorem Z194:nilsOf T 4 194=[]:=rfl
theorem Z196:nilsOf T 4 196=[]:=rfl
theorem Z197:nilsOf T 4 197=[]:=rfl
theorem Z198:nilsOf T 4 198=[]:=rfl
theorem Z200:nilsOf T 4 200=[]:=rfl
theorem Z201:nilsOf T 4 201=[]:=rfl
theorem Z202:nilsOf T 4 202=[]:=rfl
theorem Z203:nilsOf T 4 203=[]:=rfl
theorem Z204:nilsOf T 4 204=[]:=rfl
theorem Z205:nilsOf T 4 205=[]:=rfl
theorem Z206:nilsOf T 4 206=[]:=rfl
theorem Z207:nilsOf T 4 207=[]:=rfl
theorem Z208:nilsOf T 4 208=[]:=rfl
theorem Z209:nilsOf T 4 209=[]:=rfl
theorem Z210:nilsOf T 4 210=[]:=rfl
theorem Z211:nilsOf T 4 211=[]:=rfl
theorem Z212:nilsOf T 4 212=[]:=rfl
theorem Z213:nilsOf T 4 213=[]:=rfl
theorem Z214:nilsOf T 4 214=[]:=rfl
theorem Z215:nilsOf T 4 215=[]:=rfl
theorem Z216:nilsOf T 4 216=[]:=rfl
theorem Z217:nilsOf T 4 217=[]:=rfl
theorem Z218:nilsOf T 4 218=[]:=rfl
theorem Z219:nilsOf T 4 219=[]:=rfl
theorem Z221:nilsOf T 4 221=[]:=rfl
theorem Z222:nilsOf T 4 222=[]:=rfl
theorem Z223:nilsOf T 4 223=[]:=rfl
theorem Z225:nilsOf T 4 225=[]:=rfl
theorem Z226:nilsOf T 4 226=[]:=rfl
theorem Z227:nilsOf T 4 227=[]:=rfl
theorem Z228:nilsOf T 4 228=[]:=rfl
theorem Z229:nilsOf T 4 229=[]:=rfl
theorem Z230:nilsOf T 4 230=[]:=rfl
theorem Z232:nilsOf T 4 232=[]:=rfl
theorem Z233:nilsOf T 4 233=[]:=rfl
theorem Z234:nilsOf T 4 234=[]:=rfl
theorem Z236:nilsOf T 4 236=[]:=rfl
theorem Z237:nilsOf T 4 237=[]:=rfl
theorem Z238:nilsOf T 4 238=[]:=rfl
theorem Z240:nilsOf T 4 240=[]:=rfl
theorem Z241:nilsOf T 4 241=[]:=rfl
theorem Z242:nilsOf T 4 242=[]:=rfl
theorem Z243:nilsOf T 4 243=[]:=rfl
theorem Z244:nilsOf T 4 244=[]:=rfl
theorem Z245:nilsOf T 4 245=[]:=rfl
theorem Z246:nilsOf T 4 246=[]:=rfl
theorem Z247:nilsOf T 4 247=[]:=rfl
theorem Z248:nilsOf T 4 248=[]:=rfl
theorem Z249:nilsOf T 4 249=[]:=rfl
theorem Z250:nilsOf T 4 250=[]:=rfl
theorem Z251:nilsOf T 4 251=[]:=rfl
theorem Z252:nilsOf T 4 252=[]:=rfl
theorem Z253:nilsOf T 4 253=[]:=rfl
theorem Z254:nilsOf T 4 254=[]:=rfl
theorem Z255:nilsOf T 4 255=[]:=rfl
theorem Z256:nilsOf T 4 256=[]:=rfl
theorem Z257:nilsOf T 4 257=[]:=rfl
theorem Z258:nilsOf T 4 258=[]:=rfl
theorem Z259:nilsOf T 4 259=[]:=rfl
theorem Z260:nilsOf T 4 260=[]:=rfl
theorem Z261:nilsOf T 4 261=[]:=rfl
theorem Z262:nilsOf T 4 262=[]:=rfl
theorem Z263:nilsOf T 4 263=[]:=rfl
theorem Z264:nilsOf T 4 264=[]:=rfl
theorem Z265:nilsOf T 4 265=[]:=rfl
theorem Z266:nilsOf T 4 266=[]:=rfl
theorem Z267:nilsOf T 4 267=[]:=rfl
theorem Z268:nilsOf T 4 268=[]:=rfl
theorem Z269:nilsOf T 4 269=[]:=rfl
theorem Z272:nilsOf T 4 272=[]:=rfl
theorem Z273:nilsOf T 4 273=[]:=rfl
theorem Z275:nilsOf T 4 275=[]:=rfl
theorem Z276:nilsOf T 4 276=[]:=rfl
theorem Z277:nilsOf T 4 277=[]:=rfl
theorem Z278:nilsOf T 4 278=[]:=rfl
theorem Z279:nilsOf T 4 279=[]:=rfl
theorem Z280:nilsOf T 4 280=[]:=rfl
theorem Z281:nilsOf T 4 281=[]:=rfl
theorem Z282:nilsOf T 4 282=[]:=rfl
theorem Z283:nilsOf T 4 283=[]:=rfl
theorem Z284:nilsOf T 4 284=[]:=rfl
theorem Z285:nilsOf T 4 285=[]:=rfl
theorem Z286:nilsOf T 4 286=[]:=rfl
theorem Z288:nilsOf T 4 288=[]:=rfl
theorem Z289:nilsOf T 4 289=[]:=rfl
theorem Z290:nilsOf T 4 290=[]:=rfl
theorem Z291:nilsOf T 4 291=[]:=rfl
theorem Z292:nilsOf T 4 292=[]:=rfl
theorem Z296:nilsOf T 4 296=[]:=rfl
theorem Z297:nilsOf T 4 297=[]:=rfl
theorem Z300:nilsOf T 4 300=[]:=rfl
theorem Z301:nilsOf T 4 301=[]:=rfl
theorem Z302:nilsOf T 4 302=[]:=rfl
theorem Z303:nilsOf T 4 303=[]:=rfl
theorem Z304:nilsOf T 4 304=[]:=rfl
theorem Z305:nilsOf T 4 305=[]:=rfl
theorem Z306:nilsOf T 4 306=[]:=rfl
theorem Z307:nilsOf T 4 307=[]:=rfl
theorem Z308:nilsOf T 4 308=[]:=rfl
theorem Z309:nilsOf T 4 309=[]:=rfl
theorem Z310:nilsOf T 4 310=[]:=rfl
theorem Z311:nilsOf T 4 311=[]:=rfl
theorem Z312:nilsOf T 4 312=[]:=rfl
theorem Z313:nilsOf T 4 313=[]:=rfl
theorem Z314:nilsOf T 4 314=[]:=rfl
theorem Z315:nilsOf T 4 315=[]:=rfl
attribute [push_cast] T2 Z2 T3 Z3 T4 Z4 T5 Z5 T9 Z9 T22 Z22 T23 Z23 T25 Z25 T27 Z27 T28 Z28 T29 Z29 T31 Z31 T34 Z34 T38 Z38 T39 Z39 T40 Z40 T42 Z42 T45 Z45 T46 Z46 T47 Z47 T48 Z48 T50 Z50 T52 Z52 T54 Z54 T60 Z60 T65 Z65 T68 Z68 T71 Z71 T72 Z72 T74 Z74 T78 Z78 T79 Z79 T80 Z80 T82 Z82 T90 Z90 T136 Z136 T146 Z146 T151 Z151 T160 Z160 T167 Z167 T173 Z173 T181 Z181 T187 Z187 T190 Z190 T195 Z195 T199 Z199 T220 Z220 T224 Z224 T231 Z231 T235 Z235 T239 Z239 T270 Z270 T271 Z271 T274 Z274 T287 Z287 T293 Z293 T294 Z294 T295 Z295 T298 Z298 T299 Z299 Z0 Z1 Z6 Z7 Z8 Z10 Z11 Z12 Z13 Z14 Z15 Z16 Z17 Z18 Z19 Z20 Z21 Z24 Z26 Z30 Z32 Z33 Z35 Z36 Z37 Z41 Z43 Z44 Z49 Z51 Z53 Z55 Z56 Z57 Z58 Z59 Z61 Z62 Z63 Z64 Z66 Z67 Z69 Z70 Z73 Z75 Z76 Z77 Z81 Z83 Z84 Z85 Z86 Z87 Z88 Z89 Z91 Z92 Z93 Z94 Z95 Z96 Z97 Z98 Z99 Z100 Z101 Z102 Z103 Z104 Z105 Z106 Z107 Z108 Z109 Z110 Z111 Z112 Z113 Z114 Z115 Z116 Z117 Z118 Z119 Z120 Z121 Z122 Z123 Z124 Z125 Z126 Z127 Z128 Z129 Z130 Z131 Z132 Z133 Z134 Z135 Z137 Z138 Z139 Z140 Z141 Z142 Z143 Z144 Z145 Z147 Z148 Z149 Z150 Z152 Z153 Z154 Z155 Z156 Z157 Z158 Z159 Z161 Z162 Z163 Z164 Z165 Z166 Z168 Z169 Z170 Z171 Z172 Z174 Z175 Z176 Z177 Z178 Z179 Z180 Z182 Z183 Z184 Z185 Z186 Z188 Z189 Z191 Z192 Z193 Z194 Z196 Z197 Z198 Z200 Z201 Z202 Z203 Z204 Z205 Z206 Z207 Z208 Z209 Z210 Z211 Z212 Z213 Z214 Z215 Z216 Z217 Z218 Z219 Z221 Z222 Z223 Z225 Z226 Z227 Z228 Z229 Z230 Z232 Z233 Z234 Z236 Z237 Z238 Z240 Z241 Z242 Z243 Z244 Z245 Z246 Z247 Z248 Z249 Z250 Z251 Z252 Z253 Z254 Z255 Z256 Z257 Z258 Z259 Z260 Z261 Z262 Z263 Z264 Z265 Z266 Z267 Z268 Z269 Z272 Z273 Z275 Z276 Z277 Z278 Z279 Z280 Z281 Z282 Z283 Z284 Z285 Z286 Z288 Z289 Z290 Z291 Z292 Z296 Z297 Z300 Z301 Z302 Z303 Z304 Z305 Z306 Z307 Z308 Z309 Z310 Z311 Z312 Z313 Z314 Z315 D25_0 D25_1 D27_0 D27_1 D27_2 D27_3 D31_0 D31_1 D31_2 D31_3 D31_4 D38_0 D38_1 D38_2 D38_3 D42_0 D42_1 D42_2 D42_3 D42_4 D50_0 D50_1 D50_2 D50_3 D50_4 D50_5 D50_6 D50_7 D50_8 D52_0 D52_1 D52_2 D54_0 D54_1 D60_0 D60_1 D60_2 D65_0 D65_1 D74_0 D74_1 D82_0 D82_1 D82_2 D82_3 D82_4 D82_5 D82_6 D82_7 D82_8 D136_0 D136_1 D136_2 D146_0 D146_1 D190_0 D190_1 D195_0 D195_1 D195_2 D220_0 D220_1 D270_0 D270_1
end Go.LS.Tryz
