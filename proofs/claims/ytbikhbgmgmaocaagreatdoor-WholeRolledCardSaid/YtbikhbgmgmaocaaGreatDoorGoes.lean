/- The run of the whole, goes(), gives true. Conditions: none (a closed run, by the kernel, of the machine whose answers hold of the model). -/
import Derived.Test.YtbikhbgmgmaocaaGreatDoorGoesF
namespace Go.Ideal.T
open Go Go.Ideal Go.Proofs
theorem mixed : Tryz.prog.follows .mixedOrders = true := by kernel_rfl
def fsG : List Nat := fs0 ++ fs1 ++ fs2 ++ fs3
theorem fineG : fsG.all (fineFunc Tryz.prog) = true := fine_append (fine_append (fine_append fine0 fine1) fine2) fine3
theorem codeG : ∀ f ir, cOf Tryz.prog fsG f = some ir → cFunc Tryz.prog f = some ir := cOf_code fineG
theorem name_ab : Known Tryz.prog 36 [.str ⟨#[97, 98]⟩] (.bool true) :=
  known_of_gives (n := 300) (m := []) mixed codeG memo_nil rfl rfl (by kernel_rfl)
theorem memo1 : MemoOk Tryz.prog [(36, [.str ⟨#[97, 98]⟩], .bool true)] := memo_cons name_ab memo_nil
theorem goes_true : Known Tryz.prog 5 [] (.bool true) :=
  known_of_gives (n := 300) mixed codeG memo1 rfl rfl (by kernel_rfl)
#print axioms goes_true
end Go.Ideal.T
