/- What arguments read as: bytes. -/
import Derived.Test.YtbdalbibdkipcaaCoC
import Derived.Test.YtbdalbibdkipcaaLaw0
set_option linter.unusedVariables false
set_option linter.unusedSimpArgs false
set_option linter.constructorNameAsVariable false
