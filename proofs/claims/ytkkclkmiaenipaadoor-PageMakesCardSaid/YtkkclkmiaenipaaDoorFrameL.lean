/- What the rows that list variables ask besides. -/
import Derived.Test.YtkkclkmiaenipaaDoorLaid
import Derived.Test.YtkkclkmiaenipaaDoorTie
import Derived.Test.YtkkclkmiaenipaaDoorCards
import Derived.ChangeSame
import Derived.ChangeVars
import Derived.JoinedOf
import Derived.RowKitTokens
import Derived.LaidLaws
import Derived.LaidHandle
import Derived.LaidMore
import Derived.Stop.Joined
import Derived.SevenTiedAt
