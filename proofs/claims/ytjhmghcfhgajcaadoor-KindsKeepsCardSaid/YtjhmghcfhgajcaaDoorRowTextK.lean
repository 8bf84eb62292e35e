/- What the texts' walks ask of the library's variables, out of a row's condition and the world's shape. -/
import Derived.Test.YtjhmghcfhgajcaaDoorRowVkindsAll
namespace Go.Proofs.YtjhmghcfhgajcaaDoor
open Go.RowKit Go.Sel
theorem textOk_of_laid {W : World} (hsh : W.ShapedOpen Tryd.prog) (hL : laidMetH Tryd.prog Ld W) : TextOk W :=
  ⟨tab2_of_laid (t := 177) (e := 165) (n := 20) (by kernel_rfl) (by kernel_rfl) (by kernel_rfl) (by kernel_rfl) (by kernel_rfl) hL, cell_of_shapedOpen_int (zero := #[.int .i64 0]) (t := 3) hsh (of_decide_eq_true (by kernel_rfl)) (by kernel_rfl) rfl (by kernel_rfl) (by kernel_rfl) Tryd.underlying3⟩
end Go.Proofs.YtjhmghcfhgajcaaDoor
