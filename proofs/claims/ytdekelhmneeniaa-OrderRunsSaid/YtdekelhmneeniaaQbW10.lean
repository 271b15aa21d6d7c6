/- The walk of LawOrderRuns. -/
import Derived.Test.YtdekelhmneeniaaQb9
set_option linter.unusedVariables false
set_option linter.unusedSimpArgs false
