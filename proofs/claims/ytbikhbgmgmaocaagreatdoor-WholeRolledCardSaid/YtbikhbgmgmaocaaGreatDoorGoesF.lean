/- The drawn orders of the functions that goes() meets are fine. Conditions: none (closed facts of the program). -/
import Derived.Test.YtbikhbgmgmaocaaGreatDoorProg
import Derived.Test.YtbikhbgmgmaocaaGreatDoorIeA
import Derived.KernelRfl
namespace Go.Ideal.T
open Go Go.Ideal Go.Proofs
def fs0 : List Nat := [5, 23, 24, 28, 34, 36, 48, 49, 50, 51, 52, 53, 60, 61, 62, 64, 65, 66, 67, 68, 69, 70, 73, 74, 75, 79, 81, 82, 85, 86, 87, 88, 89, 90, 91, 92, 93, 94, 95, 96, 97, 98, 99, 100, 101]
theorem fine0 : fs0.all (fineFunc Tryz.prog) = true := by kernel_rfl
def fs1 : List Nat := [103, 104, 105, 106, 107, 108, 112, 117, 118, 120, 122, 123, 125, 127, 128, 130, 131, 132, 134, 135, 136, 138, 139, 140, 142, 143, 144, 145, 146, 147, 148, 150, 151, 152, 158, 159, 160, 161, 163, 164, 165, 166, 167, 168, 174]
theorem fine1 : fs1.all (fineFunc Tryz.prog) = true := by kernel_rfl
def fs2 : List Nat := [175, 177, 182, 183, 184, 186, 188, 189, 190, 191, 192, 193, 194, 195, 196, 197, 200, 205, 208, 209, 210, 211, 212, 213, 215, 217, 218, 219, 226, 230, 233, 236, 239, 240, 241, 242, 243, 244, 252, 253, 254, 256, 257, 259, 260]
theorem fine2 : fs2.all (fineFunc Tryz.prog) = true := by kernel_rfl
def fs3 : List Nat := [266, 271, 277, 279, 280, 281, 282, 283, 284, 285, 286, 300, 301, 302, 303, 306, 320, 325, 326, 329, 330, 331, 346, 350, 353, 354, 356, 357, 358, 365, 366, 367, 368, 371, 378, 380, 390, 395, 397, 409, 415, 419, 420]
theorem fine3 : fs3.all (fineFunc Tryz.prog) = true := by kernel_rfl
end Go.Ideal.T
