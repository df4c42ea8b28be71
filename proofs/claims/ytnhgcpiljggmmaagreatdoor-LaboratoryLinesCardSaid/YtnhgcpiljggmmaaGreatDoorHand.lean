/-
  All that is walked by hand.
-/
import Derived.Test.YtnhgcpiljggmmaaGreatDoorLibs
import Derived.Test.YtnhgcpiljggmmaaGreatDoorWord
import Derived.Test.YtnhgcpiljggmmaaGreatDoorVald
import Derived.Test.YtnhgcpiljggmmaaGreatDoorFmt
import Derived.Test.YtnhgcpiljggmmaaGreatDoorLines
