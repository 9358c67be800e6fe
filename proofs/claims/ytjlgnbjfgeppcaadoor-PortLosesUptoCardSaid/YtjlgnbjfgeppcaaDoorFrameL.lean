/- What the rows that list variables ask besides. -/
import Derived.Test.YtjlgnbjfgeppcaaDoorLaid
import Derived.Test.YtjlgnbjfgeppcaaDoorTie
import Derived.Test.YtjlgnbjfgeppcaaDoorCards
import Derived.ChangeSame
import Derived.ChangeVars
import Derived.JoinedOf
import Derived.RowKitTokens
import Derived.LaidLaws
import Derived.LaidHandle
import Derived.LaidMore
import Derived.Stop.Joined
import Derived.SevenTiedAt
