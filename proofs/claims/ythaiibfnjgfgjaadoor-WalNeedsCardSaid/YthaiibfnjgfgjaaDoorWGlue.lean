/- What all laws of this seat share: the table out of the row's list, the world of the witness. -/
import Derived.Test.YthaiibfnjgfgjaaDoorRows
import Derived.Test.YthaiibfnjgfgjaaDoorGlue
import Derived.Test.YthaiibfnjgfgjaaDoorWSec
namespace Go.Proofs.YthaiibfnjgfgjaaDoor
open Go.RowKit Go.ChangeShapes Go.WideShapes Go.ChangeAt
theorem own : ownKnob Tryd.prog.godebug = none := by kernel_rfl
theorem gTab : Tryd.prog.globalNamed "culvert/crc.half" = some 0 := by kernel_rfl
theorem gTabType : (Tryd.prog.globals[0]?).map (·.type) = some 127 := by kernel_rfl
theorem cellsA : Tryd.prog.cellsOf 127 = 16 := by kernel_rfl
theorem cellsE : Tryd.prog.cellsOf 89 = 1 := by kernel_rfl
def tabI : List Int := [0, 274646895, 549293790, 820201905, 1098587580, 1361435347, 1640403810, 1905808397, 2197175160, 2460548119, 2722870694, 2987750089, 3280807620, 3553878443, 3811616794, 4084100981]
theorem table {W : World} (h : laidMetH Tryd.prog [("culvert/crc.half", Rows.laid_culvert_crc_half)] W) : Lib.TabIs Tryd.prog W "culvert/crc.half" .u32 tabI :=
  Lib.tabIs_of_head (rest := []) gTab gTabType Tryd.underlying127 Tryd.underlying89 cellsE cellsA h
theorem tab_ints : ∀ i : Fin 16, tabI.getD i.val 0 = ((Crc.hf (BitVec.ofNat 32 i.val)).toNat : Int) := by decide +kernel
theorem tabOf {W : World} (h : laidMetH Tryd.prog [("culvert/crc.half", Rows.laid_culvert_crc_half)] W) : Tab W ∧ 0 < W.heap.size := by
  have h0 := (table h).cell gTab
  refine ⟨fun i => ?_, ?_⟩
  · have hlt := Crc.low_lt i
    have h1 := h0 (i &&& 15#32).toNat hlt
    rw [n32_nat, h1]
    have h2 := tab_ints ⟨(i &&& 15#32).toNat, hlt⟩
    simp only at h2
    rw [h2]
    unfold n32
    simp
  · exact World.block_lt_of_cell? W _ (h0 0 (by decide))
/-- A world for the witness: the settled one, the table holding what its initialiser lays. -/
noncomputable def laidWorld (os : Os) : World :=
  { World.holding Tryd.prog os ⟨#[], #[], []⟩ with heap := (World.holding Tryd.prog os ⟨#[], #[], []⟩).heap.modify 0 fun
      | .cells _ t frozen => .cells #[.int .u32 0, .int .u32 274646895, .int .u32 549293790, .int .u32 820201905, .int .u32 1098587580, .int .u32 1361435347, .int .u32 1640403810, .int .u32 1905808397, .int .u32 2197175160, .int .u32 2460548119, .int .u32 2722870694, .int .u32 2987750089, .int .u32 3280807620, .int .u32 3553878443, .int .u32 3811616794, .int .u32 4084100981] t frozen
      | o => o }
theorem laidOut : laidOutB Tryd.prog = true := by kernel_rfl
theorem cells_int : Tryd.prog.cellsOf 3 = 1 := by kernel_rfl
theorem bytes_int : Tryd.prog.bytesOf 3 = 8 := by kernel_rfl
theorem cells_u8 : Tryd.prog.cellsOf 5 = 1 := by kernel_rfl
theorem bytes_u8 : Tryd.prog.bytesOf 5 = 1 := by kernel_rfl
end Go.Proofs.YthaiibfnjgfgjaaDoor
