
/- What the rows that list variables ask besides. -/
import Derived.Test.YtadikbmbadldpaaGreatDoorLaid
import Derived.Test.YtadikbmbadldpaaGreatDoorTie
import Derived.Test.YtadikbmbadldpaaGreatDoorCards
import Derived.ChangeSame
import Derived.ChangeVars
import Derived.JoinedOf
import Derived.RowKitTokens
import Derived.LaidLaws
import Derived.LaidHandle
import Derived.LaidMore
import Derived.Stop.Joined
import Derived.SevenTiedAt
