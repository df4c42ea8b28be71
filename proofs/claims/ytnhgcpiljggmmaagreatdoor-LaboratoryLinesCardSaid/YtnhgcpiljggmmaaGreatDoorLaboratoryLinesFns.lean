/-
  All functions of the program that are turned here.
-/
import Derived.Test.YtnhgcpiljggmmaaGreatDoorLaboratoryLinesFnA
