/- Short requests: what the reference says. -/
import Derived.Test.YtibnbcljmfigfaaTabA
import Derived.Test.YtibnbcljmfigfaaAMJ4
import Derived.KernelRfl
namespace Go.Proofs.Ytibnbcljmfigfaa
open Go Go.AM Go.Proofs
set_option maxRecDepth 20000
set_option maxHeartbeats 1000000
set_option linter.unusedSimpArgs false
set_option linter.unusedVariables false
def shortT (k v : Bs) : Bool := !(decide (60 < (k.length : Int)) || decide (60 < (v.length : Int)))
def shortM (m : Mut) : Bool := shortT m.key m.value
def shortC (m : Cmp) : Bool := shortT m.key m.value
def shortMs (s : Sl Mut) : Bool := decide (s.l.length ≤ 8) && allP shortM s.l
def shortReq (r : Req) : Bool := decide (r.key.length ≤ 60) && decide (r.value.length ≤ 60) && decide (r.iff.l.length ≤ 8) && decide (r.thn.l.length ≤ 8) && decide (r.els.l.length ≤ 8) && allP shortC r.iff.l && shortMs r.thn && shortMs r.els
end Go.Proofs.Ytibnbcljmfigfaa
