/- What reckons the walk's function out, beside ghosts. -/
import Derived.Test.YtfmbjaeppffdpaaGreatDoorLRq
import Derived.Test.YtfmbjaeppffdpaaGreatDoorLD
namespace Go.LS
open Go
attribute [push_cast] goG stepGG stepOG gvR clo1 clo2 cloO mvK mvV isIntT cutR cutS slO stepOG0 stepOX rowR ghr hdO adO lenH idxH wrapO stepOGI stepQG' stepE0G okOpG okPl notDefer yOf prepY callOnce ghp fnNil dgoG stepMvG gOfG DEndG ptR gho Array.size_empty Bool.not_eq_true Option.some.injEq
end Go.LS
