/- What a node accepts as the chapter says lies below Ceil. No condition. -/
import Derived.Test.YtihndipgdogebaaRows
import Derived.Test.YtihndipgdogebaaLaneOps
import Derived.Test.YtihndipgdogebaaLaneW8
namespace Go.Proofs.Ytihndipgdogebaa.LaneCeils
open Go.ChangeShapes Go.WideShapes Go.ChangeAt Go.RowKit
theorem contract (H : Type) (enc : TypeId × Value → H) (W : World) (base : Nat) (args : Array Value) (ds gs : List (DataW H)) (before : List MemPlace)
    (hval : ∀ (j : Nat) t v, Try.f10.params[j]? = some t → args[j]? = some v → Value.okWide Try.prog W .any base t v)
    (hW : DataW.Whole enc Try.prog Try.f10.params.toList Rows.laneCeilsSpec.vars false W args.toList ds gs before)
    (hS : (DataW.weightsEach Try.prog (Try.f10.params.toList ++ ((OpenSpec.ofChange Rows.laneCeilsSpec).bare.plain.varTypes Try.prog)) (ds ++ gs)).all (· ≤ reachBytes) = true) (_hL : laidMetH Try.prog Rows.laneCeilsRow.laid W) :
    Calls Try.prog 10 args W fun e W' => ∃ v, e = .returned v ∧ Rows.laneCeilsSpec.post enc Try.prog Try.f10 false true false false W args v W' := by
  have hW0 := hW
  obtain ⟨p, q, hA, hV, rfl, hfz, hnd⟩ := hW
  rw [Try.params10] at hA hval hS
  obtain ⟨v0, vs0, d0, ds0, p0, q0, hargs, rfl, rfl, h0, r0⟩ := trodAll_cons hA
  obtain ⟨v1, vs1, d1, ds1, p1, q1, rfl, rfl, rfl, h1, r1⟩ := trodAll_cons r0
  obtain ⟨v2, vs2, d2, ds2, p2, q2, rfl, rfl, rfl, h2, r2⟩ := trodAll_cons r1
  obtain ⟨v3, vs3, d3, ds3, p3, q3, rfl, rfl, rfl, h3, r3⟩ := trodAll_cons r2
  obtain ⟨rfl, rfl, rfl⟩ := trodAll_nil r3
  obtain rfl : args = #[v0, v1, v2, v3] := by cases args; simp_all
  obtain ⟨rfl, rfl⟩ := trodVars_none hV
  obtain ⟨ao0, l0, c0, rfl, hr0, hn0, hc0, hd0⟩ := open_bytes Try.underlying22 Try.underlying5 cells_u8 (hval 0 22 v0 rfl rfl) h0
  have hl0 : l0.length ≤ 140737488351232 := len_bytes hS (j := 0) (t := 22) rfl rfl Try.underlying22 bytes_u8 hd0
  obtain ⟨x1, rfl, rfl, rfl, wx1⟩ := open_int Try.underlying3 (hval 1 3 v1 rfl rfl) h1
  have bx1 := bounds_i64 wx1
  obtain ⟨o2, l2, c2, rfl, hc2, hm2, hr2, hf2⟩ := open_ops (hval 2 53 v2 rfl rfl) h2
  obtain ⟨ao3, l3, c3, rfl, hc3, hm3, hr3, hb3⟩ := open_u64s Try.underlying65 Try.underlying23 cells_u64 (hval 3 65 v3 rfl rfl) h3
  refine (lawCeils l0 ao0 c0 x1 l2 o2 c2 l3 ao3 c3 W hr0 (Nat.le_trans hc2 hm2) hr2 hf2 (Nat.le_trans hc3 hm3) hr3 hb3).mono fun e W' ⟨he, hb⟩ => ?_
  subst he
  exact ⟨_, rfl, post_true laidOut (by kernel_rfl) Try.underlying4 (by kernel_rfl) hW0 rfl rfl rfl rfl hb⟩
theorem laid_met (os : Os) : laidMet Try.prog Rows.laneCeilsRow.laid ((laidWorld os).forCall (fun _ _ => 0) ⟨#[], #[.slice none 0 0, .int .i64 0, .slice none 0 0, .slice none 0 0], []⟩).memory :=
  laidMet_of_run' 8 (by kernel_rfl) (by kernel_rfl)
theorem reads (os : Os) {H : Type} (enc : TypeId × Value → H) : ∃ places, DataW.whole enc Try.prog ((laidWorld os).forCall (fun _ _ => 0) ⟨#[], #[.slice none 0 0, .int .i64 0, .slice none 0 0, .slice none 0 0], []⟩).memory Try.f10.params.toList Rows.laneCeilsSpec.vars false (#[.slice none 0 0, .int .i64 0, .slice none 0 0, .slice none 0 0] : Array Value).toList 8 = some ([.nil, .lit (.int .i64 0), .nil, .nil], [], places) :=
  ⟨[], by kernel_rfl⟩
set_option maxRecDepth 100000 in
theorem lifted (os : Os) (started : os.Started) (H : Type) (enc : TypeId × Value → H) (F : Stop.Interp) :
    ReturnsInHanded {} Try.checked os 10 .any ((OpenSpec.ofChange Rows.laneCeilsSpec).preRow enc Try.prog Try.f10 Rows.laneCeilsRow.domain false Rows.laneCeilsRow.laid) (((OpenSpec.ofChange Rows.laneCeilsSpec).at F).post enc Try.prog Try.f10 false true false false) := by
  obtain ⟨places, hx⟩ := reads os enc
  refine returnsInHanded_of_row (C := Try.checked) (s := OpenSpec.ofChange Rows.laneCeilsSpec) own started (by kernel_rfl) Try.func10
    (witness_row_at (enc := enc) (C := Try.checked) false (laidWorld os) #[.slice none 0 0, .int .i64 0, .slice none 0 0, .slice none 0 0] rfl (by kernel_rfl) (by kernel_rfl) (by kernel_rfl)
      (OpenSpec.preRow_of_cond 8 hx (by kernel_rfl) (fun k hk => by cases hk) (by kernel_rfl) (laid_met os))) ?_
  intro W base args ds gs before hval hW _ _ hS hL _ _
  exact contract H enc W base args ds gs before hval hW hS hL
theorem said : Rows.LaneCeilsSaid :=
  OpenClaim.holds_of_cond 10 Try.f10 rfl rfl rfl rfl rfl rfl rfl ⟨rfl, rfl, rfl, rfl, rfl⟩ rfl rfl rfl rfl rfl (by kernel_rfl) Try.func10 (by kernel_rfl)
    (of_decide_eq_true (by kernel_rfl)) (by unfold Func.isWrapper; first | (rw [if_pos (by decide +kernel)]; kernel_rfl) | (rw [if_neg (by decide +kernel)]; exact ⟨rfl, rfl⟩))
    (fun os started H enc _ F => by rw [OpenClaim.pre_eq_preRow]; exact lifted os started H enc F)
#print axioms said
end Go.Proofs.Ytihndipgdogebaa.LaneCeils
