/- packsaddleref12: what ReadCentral reads is the program's. -/
import Derived.Test.YtbknkahakmfhkaaRecW
import Derived.Deep.DeepCutAuto
namespace Go.Proofs.Ytbknkahakmfhkaa
open Go.RowKit
set_option linter.unusedVariables false
set_option linter.unusedSimpArgs false

theorem centralQ_P (l : List UInt8) (s : Nat × Int) : centralQ l s = centralP l s := by
  unfold centralQ centralQF centralP
  simp only [done_want, namedR, namedB, sharedR, sharedO, sharedB, rdDataS, rdDataR, rdT, nghS, centralMs, numV, numS, List.foldl_cons, List.foldl_nil, List.getD_cons_zero, List.getD_cons_succ]
  generalize (rdN l 2 (rdS l 4 s)) = v1
  generalize (rdN l 2 (rdS l 2 (rdS l 4 s))) = v2
  generalize (rdN l 2 (rdS l 2 (rdS l 2 (rdS l 4 s)))) = v3
  generalize (rdN l 2 (rdS l 2 (rdS l 2 (rdS l 2 (rdS l 4 s))))) = v4
  generalize (rdN l 2 (rdS l 2 (rdS l 4 (rdS l 4 (rdS l 4 (rdS l 2 (rdS l 2 (rdS l 2 (rdS l 2 (rdS l 2 (rdS l 2 (rdS l 4 s)))))))))))) = v11
  generalize (rdN l 2 (rdS l 2 (rdS l 2 (rdS l 4 (rdS l 4 (rdS l 4 (rdS l 2 (rdS l 2 (rdS l 2 (rdS l 2 (rdS l 2 (rdS l 2 (rdS l 4 s))))))))))))) = v12
  generalize (rdN l 2 (rdS l 2 (rdS l 2 (rdS l 2 (rdS l 4 (rdS l 4 (rdS l 4 (rdS l 2 (rdS l 2 (rdS l 2 (rdS l 2 (rdS l 2 (rdS l 2 (rdS l 4 s)))))))))))))) = v13
  generalize (rdN l 2 (rdS l 2 (rdS l 2 (rdS l 2 (rdS l 2 (rdS l 4 (rdS l 4 (rdS l 4 (rdS l 2 (rdS l 2 (rdS l 2 (rdS l 2 (rdS l 2 (rdS l 2 (rdS l 4 s))))))))))))))) = v14
  generalize (rdN l 4 (rdS l 2 (rdS l 2 (rdS l 2 (rdS l 2 (rdS l 2 (rdS l 4 (rdS l 4 (rdS l 4 (rdS l 2 (rdS l 2 (rdS l 2 (rdS l 2 (rdS l 2 (rdS l 2 (rdS l 4 s)))))))))))))))) = v15
  have hc : centralC v1 v2 v3 v4 v11 v12 v13 v14 v15 = !(false || !(v1 == 20) || !(v2 == 20) || !meth v3 || !meth v4 || !(v11 == 0) || !(v12 == 0) || !(v13 == 0) || !(v14 == 0) || !(v15 == 0)) := by
    unfold centralC
    simp only [Bool.false_or, Bool.not_or, Bool.not_not]
  rw [hc]
  split <;> simp_all
end Go.Proofs.Ytbknkahakmfhkaa
