/- Which devices there are, and how a new one stands. No condition. -/
import Derived.Test.YtkndlpihhfjcpaaRows
import Derived.Test.YtkndlpihhfjcpaaPlainGlue
import Derived.Test.YtkndlpihhfjcpaaDlWMakes
namespace Go.Proofs.Ytkndlpihhfjcpaa.DiskMakes
open Go.ChangeShapes Go.WideShapes Go.ChangeAt Go.RowKit
set_option maxRecDepth 20000
theorem contract (H : Type) (enc : TypeId × Value → H) (W : World) (base : Nat) (args : Array Value) (ds gs : List (DataW H)) (before : List MemPlace)
    (hval : ∀ (j : Nat) t v, Try.f8.params[j]? = some t → args[j]? = some v → Value.okWide Try.prog W .any base t v)
    (hW : DataW.Whole enc Try.prog Try.f8.params.toList Rows.diskMakesSpec.vars false W args.toList ds gs before)
    (hS : (DataW.weightsEach Try.prog (Try.f8.params.toList ++ ((OpenSpec.ofChange Rows.diskMakesSpec).bare.plain.varTypes Try.prog)) (ds ++ gs)).all (· ≤ reachBytes) = true) (_hL : laidMetH Try.prog Rows.diskMakesRow.laid W) :
    Calls Try.prog 8 args W fun e W' => ∃ v, e = .returned v ∧ Rows.diskMakesSpec.post enc Try.prog Try.f8 false true false false W args v W' := by
  have hW0 := hW
  obtain ⟨p, q, hA, hV, rfl, hfz, hnd⟩ := hW
  rw [Try.params8] at hA hval hS
  obtain ⟨v0, vs0, d0, ds0, p0, q0, hargs, rfl, rfl, h0, r0⟩ := trodAll_cons hA
  obtain ⟨v1, vs1, d1, ds1, p1, q1, rfl, rfl, rfl, h1, r1⟩ := trodAll_cons r0
  obtain ⟨rfl, rfl, rfl⟩ := trodAll_nil r1
  obtain rfl : args = #[v0, v1] := by cases args; simp_all
  obtain ⟨rfl, rfl⟩ := trodVars_none hV
  obtain ⟨x0, rfl, rfl, rfl, wx0⟩ := open_int Try.underlying3 (hval 0 3 v0 rfl rfl) h0
  have bx0 := bounds_i64 wx0
  obtain ⟨ao1, l1, c1, rfl, hr1, hn1, hc1, hd1⟩ := open_bytes Try.underlying37 Try.underlying5 cells_u8 (hval 1 37 v1 rfl rfl) h1
  have hl1 : l1.length ≤ 140737488351232 := len_bytes hS (j := 1) (t := 37) rfl rfl Try.underlying37 bytes_u8 hd1
  refine (lawDiskMakes x0 l1 ao1 _ c1 W bx0.1 bx0.2 rfl hl1 hc1 hr1).mono fun e W' ⟨he, hb⟩ => ?_
  subst he
  exact ⟨_, rfl, post_true laidOut (by kernel_rfl) Try.underlying4 (by kernel_rfl) hW0 rfl rfl rfl rfl hb⟩
theorem laid_met (os : Os) : laidMet Try.prog Rows.diskMakesRow.laid ((laidWorld os).forCall (fun _ _ => 0) ⟨#[], #[.int .i64 0, .slice none 0 0], []⟩).memory :=
  laidMet_of_run' 8 (by kernel_rfl) (by kernel_rfl)
theorem reads (os : Os) {H : Type} (enc : TypeId × Value → H) : ∃ places, DataW.whole enc Try.prog ((laidWorld os).forCall (fun _ _ => 0) ⟨#[], #[.int .i64 0, .slice none 0 0], []⟩).memory Try.f8.params.toList Rows.diskMakesSpec.vars false (#[.int .i64 0, .slice none 0 0] : Array Value).toList 8 = some ([.lit (.int .i64 0), .nil], [], places) :=
  ⟨[], by kernel_rfl⟩
set_option maxRecDepth 100000 in
theorem lifted (os : Os) (started : os.Started) (H : Type) (enc : TypeId × Value → H) (F : Stop.Interp) :
    ReturnsInHanded {} Try.checked os 8 .any ((OpenSpec.ofChange Rows.diskMakesSpec).preRow enc Try.prog Try.f8 Rows.diskMakesRow.domain false Rows.diskMakesRow.laid) (((OpenSpec.ofChange Rows.diskMakesSpec).at F).post enc Try.prog Try.f8 false true false false) := by
  obtain ⟨places, hx⟩ := reads os enc
  refine returnsInHanded_of_row (C := Try.checked) (s := OpenSpec.ofChange Rows.diskMakesSpec) own started (by kernel_rfl) Try.func8
    (witness_row_at (enc := enc) (C := Try.checked) false (laidWorld os) #[.int .i64 0, .slice none 0 0] rfl (by kernel_rfl) (by kernel_rfl) (by kernel_rfl)
      (OpenSpec.preRow_of_cond 8 hx (by kernel_rfl) (fun k hk => by cases hk) (by kernel_rfl) (laid_met os))) ?_
  intro W base args ds gs before hval hW _ _ hS hL _ _
  exact contract H enc W base args ds gs before hval hW hS hL
theorem said : Rows.DiskMakesSaid :=
  OpenClaim.holds_of_cond 8 Try.f8 rfl rfl rfl rfl rfl rfl rfl ⟨rfl, rfl, rfl, rfl, rfl⟩ rfl rfl rfl rfl rfl (by kernel_rfl) Try.func8 (by kernel_rfl)
    (of_decide_eq_true (by kernel_rfl)) (by unfold Func.isWrapper; first | (rw [if_pos (by decide +kernel)]; kernel_rfl) | (rw [if_neg (by decide +kernel)]; exact ⟨rfl, rfl⟩))
    (fun os started H enc _ F => by rw [OpenClaim.pre_eq_preRow]; exact lifted os started H enc F)
#print axioms said
end Go.Proofs.Ytkndlpihhfjcpaa.DiskMakes
