/-
  All rules.
-/
import Derived.Test.YteibnlgfkcbfhaaG1
import Derived.Test.YteibnlgfkcbfhaaG2
import Derived.Test.YteibnlgfkcbfhaaG3
import Derived.Test.YteibnlgfkcbfhaaG4
import Derived.Test.YteibnlgfkcbfhaaG5
import Derived.Test.YteibnlgfkcbfhaaG6
import Derived.Test.YteibnlgfkcbfhaaG7
import Derived.Test.YteibnlgfkcbfhaaG8
import Derived.Test.YteibnlgfkcbfhaaG9
import Derived.Test.YteibnlgfkcbfhaaG10
