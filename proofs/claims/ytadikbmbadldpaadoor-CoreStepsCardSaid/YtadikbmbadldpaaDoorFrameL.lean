
/- What the rows that list variables ask besides. -/
import Derived.Test.YtadikbmbadldpaaDoorLaid
import Derived.Test.YtadikbmbadldpaaDoorTie
import Derived.Test.YtadikbmbadldpaaDoorCards
import Derived.ChangeSame
import Derived.ChangeVars
import Derived.JoinedOf
import Derived.RowKitTokens
import Derived.LaidLaws
import Derived.LaidHandle
import Derived.LaidMore
import Derived.Stop.Joined
import Derived.SevenTiedAt
