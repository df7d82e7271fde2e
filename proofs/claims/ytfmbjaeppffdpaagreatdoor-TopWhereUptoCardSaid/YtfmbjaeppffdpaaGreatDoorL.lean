/- The layout of strconv.AppendInt and of what it calls, at this program (made by the kit's lay-plain). -/
import Derived.Shelf.LaysM
import Derived.Test.YtfmbjaeppffdpaaGreatDoorProg
namespace Go.Proofs
open Go.Shelf
def Tryz.laysM176_ren : Go.Shelf.Ren := ⟨fun | 176 => 128 | 249 => 162 | 288 => 182 | 283 => 188 | 284 => 189 | 285 => 190 | 286 => 191 | 129 => 194 | 317 => 193 | 318 => 195 | 319 => 196 | 320 => 197 | 337 => 198 | 338 => 199 | n => n, fun | 37 => 224 | 2 => 2 | 3 => 3 | 53 => 271 | 4 => 4 | 9 => 9 | 171 => 287 | 0 => 0 | 173 => 290 | 212 => 293 | 51 => 294 | 5 => 5 | 20 => 20 | 213 => 295 | 46 => 274 | 232 => 298 | 233 => 299 | n => n, fun | 17 => 0 | 18 => 1 | 19 => 2 | n => n⟩
end Go.Proofs
