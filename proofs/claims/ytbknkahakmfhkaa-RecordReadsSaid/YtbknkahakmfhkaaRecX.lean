/- packsaddleref12: what ReadLocal reads is the program's. -/
import Derived.Test.YtbknkahakmfhkaaRecV
import Derived.Deep.DeepCutAuto
namespace Go.Proofs.Ytbknkahakmfhkaa
open Go.RowKit
set_option linter.unusedVariables false
set_option linter.unusedSimpArgs false

theorem localQ_P (l : List UInt8) (s : Nat × Int) : localQ l s = localP l s := by
  unfold localQ localQF localP
  simp only [done_want, namedR, namedB, sharedR, sharedO, sharedB, rdDataS, rdDataR, rdT, nghS, localMs, numV, numS, List.foldl_cons, List.foldl_nil, List.getD_cons_zero, List.getD_cons_succ]
  generalize rdN l 2 (rdS l 4 s) = v1
  generalize rdN l 2 (rdS l 2 (rdS l 4 s)) = v2
  generalize rdN l 2 (rdS l 2 (rdS l 2 (rdS l 4 s))) = v3
  generalize (rdN l 4 (rdS l 2 (rdS l 2 (rdS l 2 (rdS l 2 (rdS l 2 (rdS l 4 s))))))) = v6
  generalize (rdN l 4 (rdS l 4 (rdS l 2 (rdS l 2 (rdS l 2 (rdS l 2 (rdS l 2 (rdS l 4 s)))))))) = v7
  generalize (rdN l 4 (rdS l 4 (rdS l 4 (rdS l 2 (rdS l 2 (rdS l 2 (rdS l 2 (rdS l 2 (rdS l 4 s))))))))) = v8
  generalize (rdN l 2 (rdS l 2 (rdS l 4 (rdS l 4 (rdS l 4 (rdS l 2 (rdS l 2 (rdS l 2 (rdS l 2 (rdS l 2 (rdS l 4 s))))))))))) = v10
  have hc : localC v1 v2 v3 v6 v7 v8 v10 = !(false || !(v1 == 20) || !meth v2 || !meth v3 || !(v10 == 0) || !(!(v2 == 8) || v6 == 0 && v7 == 0 && v8 == 0)) := by
    unfold localC
    by_cases h0 : v2 = 0
    · subst h0
      cases (v1 == 20) <;> cases meth v3 <;> cases (v10 == 0) <;> simp [meth]
    · by_cases h8 : v2 = 8
      · subst h8
        cases (v1 == 20) <;> cases meth v3 <;> cases (v10 == 0) <;> cases (v6 == 0) <;> cases (v7 == 0) <;> cases (v8 == 0) <;> simp [meth]
      · have hm : meth v2 = false := by unfold meth; simp [h0, h8]
        rw [hm]
        cases (v1 == 20) <;> simp
  rw [hc]
  split <;> simp_all
end Go.Proofs.Ytbknkahakmfhkaa
