/- Imports that the walks share. -/
import Derived.Test.YtjpbmeonkfkgdaaRows
import Derived.Test.YtjpbmeonkfkgdaaW1
import Derived.WalkKit
import Derived.Outline
import Derived.LoopTactic
import Derived.Deep.LoopGhost
import Derived.Deep.QuietTactic
import Derived.BigQuiet
import Derived.WalkSpells
import Derived.WalkLawsBesides
import Derived.IntWalk
import Derived.Deep.Light
