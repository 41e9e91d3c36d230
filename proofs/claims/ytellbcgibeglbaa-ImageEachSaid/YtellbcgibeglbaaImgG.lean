/-
  Small facts for the contracts of images at any kind of samples.
-/
import Derived.Test.YtellbcgibeglbaaImgE
namespace Go.Proofs.Ytellbcgibeglbaa
open Go.RowKit

theorem Try.info9 : (Try.prog.info? 9).map (fun i => (i.zero, i.size, i.bytes)) = some (some (.string ByteArray.empty), 1, 16) := by kernel_rfl

/-- the sides that an image may have -/
def Fits (W H : Int) : Prop := 1 ≤ W ∧ 1 ≤ H ∧ W ≤ 1024 ∧ H ≤ 1024 ∧ W * H ≤ 65536

theorem IsImg.drewN {w : World} {E S b g n : Nat} {W H : Int} {cs : List Value} (h : IsImg w E S b g W H n cs) (q : Nat) : IsImg (w.drewN q) E S b g W H n cs := ⟨h.head, h.row, h.len⟩

end Go.Proofs.Ytellbcgibeglbaa
