/- The card base over the pieces. -/
import Derived.Test.YtadgcpjobhgkiaaDoorM9
import Derived.Test.YtadgcpjobhgkiaaDoorN1
/- part G1G -/
section

end
