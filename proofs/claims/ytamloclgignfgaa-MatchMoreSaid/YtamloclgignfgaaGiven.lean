/- The contracts that were proved by hand, together. -/
import Derived.Test.YtamloclgignfgaaGb
import Derived.Test.YtamloclgignfgaaGf
import Derived.Test.YtamloclgignfgaaGg
