/- Things that are the same are told to be the same. -/
import Derived.Test.YtibnbcljmfigfaaTabA
import Derived.Test.YtibnbcljmfigfaaAMJ4
import Derived.KernelRfl
namespace Go.Proofs.Ytibnbcljmfigfaa
open Go Go.AM Go.Proofs
set_option maxRecDepth 4000
set_option linter.unusedSimpArgs false
set_option linter.unusedVariables false
def sameReq (a b : Req) : Prop := a.kind = b.kind ∧ a.who = b.who ∧ a.seq = b.seq ∧ a.once = b.once ∧ a.key = b.key ∧ a.value = b.value ∧ a.lease = b.lease ∧ a.rev = b.rev ∧ a.ttl = b.ttl ∧ a.token = b.token ∧ a.iff.l = b.iff.l ∧ a.thn.l = b.thn.l ∧ a.els.l = b.els.l
end Go.Proofs.Ytibnbcljmfigfaa
