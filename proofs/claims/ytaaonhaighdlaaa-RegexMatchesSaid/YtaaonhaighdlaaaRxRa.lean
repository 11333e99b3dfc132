/- RegexRows: the texts that are cut; plain. -/
import Derived.Test.YtaaonhaighdlaaaRxZ
import Derived.Test.YtaaonhaighdlaaaRxU
namespace Go.Proofs.Ytaaonhaighdlaaa
open Rx
set_option linter.unusedVariables false
theorem bys_take (s : ByteArray) (i : Nat) : bys (s.extract 0 i) = (bys s).take i := by
  unfold bys
  rw [ByteArray.data_extract, Array.toList_extract]
  simp [List.map_take, List.extract]
theorem bys_drop (s : ByteArray) (i : Nat) : bys (s.extract i s.size) = (bys s).drop i := by
  unfold bys
  rw [ByteArray.data_extract, Array.toList_extract]
  simp only [List.extract, List.map_take, List.map_drop]
  rw [List.take_of_length_le]
  simp
theorem rows1 (p : ByteArray) : bys (ByteArray.mk #[40] ++ p ++ ByteArray.mk #[41]) = br (bys p) := by
  simp only [bys_append, show bys (ByteArray.mk #[40]) = [40] from rfl, show bys (ByteArray.mk #[41]) = [41] from rfl]
  simp [br]
theorem rows2 (p q : ByteArray) : bys (ByteArray.mk #[40] ++ p ++ ByteArray.mk #[41, 40] ++ q ++ ByteArray.mk #[41]) = br (bys p) ++ br (bys q) := by
  simp only [bys_append, show bys (ByteArray.mk #[40]) = [40] from rfl, show bys (ByteArray.mk #[41]) = [41] from rfl, show bys (ByteArray.mk #[41, 40]) = [41, 40] from rfl]
  simp [br]
theorem rows3 (p q : ByteArray) : bys (ByteArray.mk #[40] ++ p ++ ByteArray.mk #[41, 124, 40] ++ q ++ ByteArray.mk #[41]) = br (bys p) ++ (124 :: br (bys q)) := by
  simp only [bys_append, show bys (ByteArray.mk #[40]) = [40] from rfl, show bys (ByteArray.mk #[41]) = [41] from rfl, show bys (ByteArray.mk #[41, 124, 40]) = [41, 124, 40] from rfl]
  simp [br]
end Go.Proofs.Ytaaonhaighdlaaa
