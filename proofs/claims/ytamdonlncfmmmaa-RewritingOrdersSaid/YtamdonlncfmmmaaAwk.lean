/-
  The examples of the chapter, in plain words.
-/
import Derived.Test.YtamdonlncfmmmaaW21
import Derived.Test.YtamdonlncfmmmaaPAll
namespace Go.Proofs.Ytamdonlncfmmmaa
open Go.RowKit Go.Ap Go.Shelf Go.Proofs

def ruA : List Rule := [([97, 101], [101]), ([111, 101], [101])]
def ruB : List Rule := [([97, 98], [99]), ([98, 99], [97])]
theorem sortS_length (l : List Str) : (sortS l).length = l.length := (sortS_perm l).length_eq
theorem aw_nf : NfE ruA [99, 97, 101, 108, 117, 109] = (0, [99, 101, 108, 117, 109]) := by decide +kernel
theorem aw_nor : normalsL ruB [97, 98, 99] = some [[99, 99], [97, 97]] := by decide +kernel
theorem aw_sort : sortS [[99, 99], [97, 97]] = [[97, 97], [99, 99]] := (sortS_eq (by decide) (by decide)).symm
theorem aw_all0 : allE ruB [97, 98, 99] = (0, [[97, 97], [99, 99]]) := by rw [allE, aw_nor]; simp only [aw_sort]
theorem aw_all : AllE ruB [97, 98, 99] = (0, [[97, 97], [99, 99]]) := by rw [AllE, if_pos (by decide +kernel), aw_all0]
theorem aw_cr : CrE ruB = (0, [([97, 98, 99], [99, 99], [97, 97])]) := by decide +kernel
theorem aw_co : CoE ruB = (false, 0) := by
  rw [CoE, aw_cr]
  simp only [if_true, conL, aw_all0]
  rfl
end Go.Proofs.Ytamdonlncfmmmaa
