/- Strings by their bytes; which sector may be: the walks of tagged, may, May. -/
import Derived.Test.YthaiibfnjgfgjaaDoorProg
import Derived.Test.YthaiibfnjgfgjaaDoorSecPure
import Derived.Test.YthaiibfnjgfgjaaDoorBagApp
import Derived.Laws.BytesArg
import Derived.Lib.AppendStr
namespace Go.Proofs.YthaiibfnjgfgjaaDoor
open Go.RowKit
/-- The string of these bytes. -/
def str (l : List (BitVec 8)) : ByteArray := ⟨(l.map UInt8.ofBitVec).toArray⟩
theorem str_inj {l m : List (BitVec 8)} : str l = str m ↔ l = m := by
  constructor
  · intro h
    have h1 := congrArg (fun s => s.data.toList.map UInt8.toBitVec) h
    simpa [str, Function.comp_def] using h1
  · rintro rfl; rfl
theorem str_of (s : ByteArray) : s = str (s.data.toList.map UInt8.toBitVec) := by
  obtain ⟨⟨l⟩⟩ := s
  simp [str, Function.comp_def]
theorem str_size (l : List (BitVec 8)) : (str l).size = l.length := by simp [str, ByteArray.size]
theorem str_nums (l : List (BitVec 8)) : strOfNums (l.map n8) = str l := by
  unfold strOfNums str n8
  congr 2
  rw [List.map_map]
  refine List.map_congr_left fun b _ => ?_
  simp only [Function.comp_def, Int.toNat_natCast]
  exact UInt8.eq_of_toBitVec_eq (by simp)
theorem str_cells (l : List (BitVec 8)) : Lib.strCells (str l) = bts l := by
  simp only [Lib.strCells, str, bts, List.map_map]
  refine List.map_congr_left fun b _ => ?_
  simp [n8]
theorem str_toList (l : List (BitVec 8)) : (str l).toList = l.map UInt8.ofBitVec := by
  rw [ByteArray.toList_eq]
  rfl
theorem of_beq (l m : List (BitVec 8)) : (l.map UInt8.ofBitVec == m.map UInt8.ofBitVec) = (l == m) := by
  rw [Bool.eq_iff_iff, beq_iff_eq, beq_iff_eq]
  constructor
  · intro h
    have h1 := congrArg (List.map UInt8.toBitVec) h
    simpa [Function.comp_def] using h1
  · rintro rfl; rfl
@[go_sem] theorem str_beq (l m : List (BitVec 8)) : ((str l).toList == (str m).toList) = (l == m) := by rw [str_toList, str_toList, of_beq]
attribute [irreducible] str
def tS : List (BitVec 8) := [67#8, 86#8, 83#8, 49#8]
def tD : List (BitVec 8) := [67#8, 86#8, 68#8, 49#8]
def tC : List (BitVec 8) := [67#8, 86#8, 67#8, 49#8]
def tO : List (BitVec 8) := [67#8, 86#8, 79#8, 49#8]
theorem lit_S : ({ data := #[67, 86, 83, 49] } : ByteArray) = str tS := by unfold str; rfl
theorem lit_D : ({ data := #[67, 86, 68, 49] } : ByteArray) = str tD := by unfold str; rfl
theorem lit_C : ({ data := #[67, 86, 67, 49] } : ByteArray) = str tC := by unfold str; rfl
theorem lit_O : ({ data := #[67, 86, 79, 49] } : ByteArray) = str tO := by unfold str; rfl
@[go_sem] theorem beq_S (t : List (BitVec 8)) : ((str t).toList == [67, 86, 83, 49]) = (t == tS) := by rw [← of_beq, str_toList]; rfl
@[go_sem] theorem beq_D (t : List (BitVec 8)) : ((str t).toList == [67, 86, 68, 49]) = (t == tD) := by rw [← of_beq, str_toList]; rfl
@[go_sem] theorem beq_C (t : List (BitVec 8)) : ((str t).toList == [67, 86, 67, 49]) = (t == tC) := by rw [← of_beq, str_toList]; rfl
@[go_sem] theorem beq_O (t : List (BitVec 8)) : ((str t).toList == [67, 86, 79, 49]) = (t == tO) := by rw [← of_beq, str_toList]; rfl
theorem tagB_eq (t : List (BitVec 8)) : tagB t = (t == tS || (t == tD || (t == tC || t == tO))) := by
  simp only [tagB, tags, tS, tD, tC, tO, List.contains_cons, List.contains_nil, Bool.or_false]
theorem tagged (t : List (BitVec 8)) (w : World) : Calls Tryd.prog 86 #[.string (str t)] w fun e w' => e = .returned (.bool (tagB t)) ∧ w = w' := by
  rw [tagB_eq]
  cases h1 : (t == tS) <;> cases h2 : (t == tD) <;> cases h3 : (t == tC) <;> cases h4 : (t == tO) <;> (
    go_enter Tryd.func86, Tryd.ntmps86
    go_wp2
    go_ret
    exact ⟨rfl, rfl⟩)
end Go.Proofs.YthaiibfnjgfgjaaDoor
