/- The last region of counts, over its frame. A region of the walk over the transactions, over its frame. A region of the walk over the transactions (the end's body is compared), over its frame. Open's parts: does a sector hold a superblock that counts? Open's parts: the superblocks that count, in their order. -/
import Derived.Test.YthaiibfnjgfgjaaDoorWMb
import Derived.Deep.RegionHeld3
import Derived.Deep.CutRange
import Derived.Deep.CutBlock
import Derived.Laws.ResultCell
namespace Go.Proofs.YthaiibfnjgfgjaaDoor
open Go.RowKit
namespace Wl
theorem wp_calm {P : Program} {c : Code} {K : Exit → Act → World → Prop} {a : Act} {w : World} (h : Code.wp P c (Exit.then (fun a w => K .normal a w) (fun _ _ _ => False)) a w) : Code.wp P c K a w :=
  Code.wp_mono (by intro e a w h; cases e <;> first | exact h | exact h.elim) h
def regionOf (n : Nat) : Code → Option Code
  | .region m ops d => if m = n then some (.region m ops d) else none
  | .seq a b => match regionOf n a with
    | some c => some c
    | none => regionOf n b
  | .block _ c => regionOf n c
  | .loop c => regionOf n c
  | .scope c => regionOf n c
  | .cond _ a b => match regionOf n a with
    | some c => some c
    | none => regionOf n b
  | _ => none
noncomputable def codeCounts : Code := ((Tryd.f66.body.bind (regionOf 10)).getD .skip)
set_option maxRecDepth 1000000 in
set_option maxHeartbeats 8000000 in
theorem regionCounts_a {W : World} {b8 b14 : Nat} {s0 s1 s2 s3 s4 n room x0 : Int} (hne : b14 ≠ b8) (e1 : (x0 == n) = false) (ew : IntKind.i64.wrap x0 = x0)
    (h8 : W.heap[b8]? = some (.cells #[.int .i64 0, .int .i64 0, .int .i64 0, .int .i64 0, .int .u32 0] 91 (0, 0)))
    (h14 : W.heap[b14]? = some (.cells #[.int .i64 s0, .int .i64 s1, .int .i64 s2, .int .i64 s3, .int .u32 s4] 91 (0, 0)))
    {r0 r1 r4 r5 r6 r7 r9 r10 r11 r12 r15 r16 r17 r18 r19 r20 r21 r22 r23 r24 r25 r26 r27 r28 r29 r30 r31 r32 r33 r34 r35 r36 r37 r38 r39 r40 r41 r42 r43 r44 r45 r46 r47 r48 r49 r50 r51 r52 r53 r54 r55 r56 r57 r58 r59 r60 r61 r62 r63 r64 r65 r66 r67 r68 r69 r70 r71 r72 r73 r74 r75 r76 r77 r78 r79 r80 r81 r82 r83 r84 r85 r86 r87 r88 r89 r90 r91 r92 r93 : Value} {K1 : Act → World → Prop}
    (hK : ∀ (v74 v75 v76 v77 v78 v79 v80 v81 v82 v83 v84 v85 v86 v87 v88 v89 v90 v91 v92 v93 : Value), K1 ⟨#[r0, r1, .int .i64 n, .int .i64 room, r4, r5, r6, r7, .pointer (some ⟨b8, 0, none⟩), .bool false, r10, r11, r12, .int .u32 x0, .pointer (some ⟨b14, 0, none⟩), r15, r16, r17, r18, r19, r20, r21, r22, r23, r24, r25, r26, r27, r28, r29, r30, r31, r32, r33, r34, r35, r36, r37, r38, r39, r40, r41, r42, r43, r44, r45, r46, r47, r48, r49, r50, r51, r52, r53, r54, r55, r56, r57, r58, r59, r60, r61, r62, r63, r64, r65, r66, r67, r68, r69, r70, r71, r72, r73, v74, v75, v76, v77, v78, v79, v80, v81, v82, v83, v84, v85, v86, v87, v88, v89, v90, v91, v92, v93], []⟩ (Bag.setAll W.drew b8 0 [.int .i64 s0, .int .i64 s1, .int .i64 s2, .int .i64 s3, .int .u32 s4])) :
    Code.wp Tryd.prog codeCounts (Exit.then K1 (fun _ _ _ => False)) ⟨#[r0, r1, .int .i64 n, .int .i64 room, r4, r5, r6, r7, .pointer (some ⟨b8, 0, none⟩), r9, r10, r11, r12, .int .u32 x0, .pointer (some ⟨b14, 0, none⟩), r15, r16, r17, r18, r19, r20, r21, r22, r23, r24, r25, r26, r27, r28, r29, r30, r31, r32, r33, r34, r35, r36, r37, r38, r39, r40, r41, r42, r43, r44, r45, r46, r47, r48, r49, r50, r51, r52, r53, r54, r55, r56, r57, r58, r59, r60, r61, r62, r63, r64, r65, r66, r67, r68, r69, r70, r71, r72, r73, r74, r75, r76, r77, r78, r79, r80, r81, r82, r83, r84, r85, r86, r87, r88, r89, r90, r91, r92, r93], []⟩ W := by
  conv => arg 2; whnf
  obtain ⟨d0, d1, d2, d3, d4, df⟩ := cells5 h14
  obtain ⟨w0, w1, w2, w3, w4, wf⟩ := cells5 h8
  have dl := lt_of_heap h14
  have wl := lt_of_heap h8
  have HK := Lib.hid hK
  clear hK h8 h14
  skip
  skip
  refine wp_region_held_drew (S := fun w' => w'.cell? ⟨b14, 0, none⟩ = some (.int .i64 s0) ∧ w'.cell? ⟨b14, 1, none⟩ = some (.int .i64 s1) ∧ w'.cell? ⟨b14, 2, none⟩ = some (.int .i64 s2) ∧ w'.cell? ⟨b14, 3, none⟩ = some (.int .i64 s3) ∧ w'.cell? ⟨b14, 4, none⟩ = some (.int .u32 s4)) (by kernel_rfl) ?_ (fun hHeld => ?_)
  · exact ⟨d0, d1, d2, d3, d4⟩
  refine wpAnyH_take (i := 0) (oi := { dst := some 74, op := Op.load 91 (Operand.tmp 14), type := 91, pos := "open.go:30", after := #[], guard := none }) (v := .agg #[.int .i64 s0, .int .i64 s1, .int .i64 s2, .int .i64 s3, .int .u32 s4]) rfl (by kernel_rfl) (by kernel_rfl) (by kernel_rfl) (fun _ _ _ h => h) (Or.inl ⟨by rfl, ?_⟩) (by assumption) ?_
  · intro w hSw; (try dsimp only at hSw); go_simp
  simp only [Act.put, List.setIfInBounds_toArray, List.set_cons_zero, List.set_cons_succ]
  refine wpAnyH_take (i := 1) (oi := { dst := some 75, op := Op.move (Operand.tmp 13), type := 89, pos := "open.go:30", after := #[], guard := none }) (v := .int .u32 x0) rfl (by kernel_rfl) (by kernel_rfl) (by kernel_rfl) (fun _ _ _ h => h) (Or.inl ⟨by rfl, ?_⟩) (by assumption) ?_
  · intro w hSw; (try dsimp only at hSw); go_simp
  simp only [Act.put, List.setIfInBounds_toArray, List.set_cons_zero, List.set_cons_succ]
  refine wpAnyH_take (i := 2) (oi := { dst := some 76, op := Op.convert 89 3 (Operand.tmp 75), type := 3, pos := "open.go:30", after := #[{ on := 1, ground := Ground.data }], guard := none }) (v := .int .i64 x0) rfl (by kernel_rfl) (by kernel_rfl) (by kernel_rfl) (fun _ _ _ h => h) (Or.inl ⟨by rfl, ?_⟩) (by assumption) ?_
  · intro w hSw; (try dsimp only at hSw); go_simp
  simp only [Act.put, List.setIfInBounds_toArray, List.set_cons_zero, List.set_cons_succ]
  refine wpAnyH_take (i := 3) (oi := { dst := some 77, op := Op.move (Operand.tmp 2), type := 3, pos := "open.go:30", after := #[], guard := none }) (v := .int .i64 n) rfl (by kernel_rfl) (by kernel_rfl) (by kernel_rfl) (fun _ _ _ h => h) (Or.inl ⟨by rfl, ?_⟩) (by assumption) ?_
  · intro w hSw; (try dsimp only at hSw); go_simp
  simp only [Act.put, List.setIfInBounds_toArray, List.set_cons_zero, List.set_cons_succ]
  refine wpAnyH_take (i := 4) (oi := { dst := some 78, op := Op.binOp BinOp.eql 3 (Operand.tmp 76) (Operand.tmp 77) 3, type := 4, pos := "open.go:30", after := #[{ on := 2, ground := Ground.data }, { on := 3, ground := Ground.data }], guard := none }) (v := .bool false) rfl (by kernel_rfl) (by kernel_rfl) (by kernel_rfl) (fun _ _ _ h => h) (Or.inl ⟨by rfl, ?_⟩) (by assumption) ?_
  · intro w hSw; (try dsimp only at hSw); go_simp
  simp only [Act.put, List.setIfInBounds_toArray, List.set_cons_zero, List.set_cons_succ]
  refine wpAnyH_take (i := 5) (oi := { dst := some 79, op := Op.move (Operand.tmp 78), type := 4, pos := "open.go:30", after := #[{ on := 4, ground := Ground.data }], guard := none }) (v := .bool false) rfl (by kernel_rfl) (by kernel_rfl) (by kernel_rfl) (fun _ _ _ h => h) (Or.inl ⟨by rfl, ?_⟩) (by assumption) ?_
  · intro w hSw; (try dsimp only at hSw); go_simp
  simp only [Act.put, List.setIfInBounds_toArray, List.set_cons_zero, List.set_cons_succ]
  refine wpAnyH_take (i := 6) (oi := { dst := some 80, op := Op.fieldAddr 91 (Operand.tmp 14) 2, type := 0, pos := "open.go:30", after := #[{ on := 5, ground := Ground.guard }], guard := some (5, true) }) (v := undef) rfl (by kernel_rfl) (by kernel_rfl) (by kernel_rfl) (fun _ _ _ h => h) (Or.inr ⟨by rfl, rfl⟩) (by assumption) ?_
  simp only [Act.put, List.setIfInBounds_toArray, List.set_cons_zero, List.set_cons_succ]
  refine wpAnyH_take (i := 7) (oi := { dst := some 81, op := Op.load 3 (Operand.tmp 80), type := 3, pos := "open.go:30", after := #[{ on := 6, ground := Ground.data }, { on := 5, ground := Ground.guard }], guard := some (5, true) }) (v := undef) rfl (by kernel_rfl) (by kernel_rfl) (by kernel_rfl) (fun _ _ _ h => h) (Or.inr ⟨by rfl, rfl⟩) (by assumption) ?_
  simp only [Act.put, List.setIfInBounds_toArray, List.set_cons_zero, List.set_cons_succ]
  refine wpAnyH_take (i := 8) (oi := { dst := some 82, op := Op.fieldAddr 91 (Operand.tmp 14) 3, type := 0, pos := "open.go:30", after := #[{ on := 5, ground := Ground.guard }], guard := some (5, true) }) (v := undef) rfl (by kernel_rfl) (by kernel_rfl) (by kernel_rfl) (fun _ _ _ h => h) (Or.inr ⟨by rfl, rfl⟩) (by assumption) ?_
  simp only [Act.put, List.setIfInBounds_toArray, List.set_cons_zero, List.set_cons_succ]
  refine wpAnyH_take (i := 9) (oi := { dst := some 83, op := Op.load 3 (Operand.tmp 82), type := 3, pos := "open.go:30", after := #[{ on := 8, ground := Ground.data }, { on := 5, ground := Ground.guard }], guard := some (5, true) }) (v := undef) rfl (by kernel_rfl) (by kernel_rfl) (by kernel_rfl) (fun _ _ _ h => h) (Or.inr ⟨by rfl, rfl⟩) (by assumption) ?_
  simp only [Act.put, List.setIfInBounds_toArray, List.set_cons_zero, List.set_cons_succ]
  refine wpAnyH_take (i := 10) (oi := { dst := some 84, op := Op.call { callee := Callee.value (Operand.func 11), args := #[Operand.tmp 83], argTypes := #[3] }, type := 3, pos := "open.go:30", after := #[{ on := 9, ground := Ground.data }, { on := 5, ground := Ground.chain }, { on := 5, ground := Ground.guard }], guard := some (5, true) }) (v := undef) rfl (by kernel_rfl) (by kernel_rfl) (by kernel_rfl) (fun _ _ _ h => h) (Or.inr ⟨by rfl, rfl⟩) (by assumption) ?_
  simp only [Act.put, List.setIfInBounds_toArray, List.set_cons_zero, List.set_cons_succ]
  refine wpAnyH_take (i := 11) (oi := { dst := some 85, op := Op.binOp BinOp.eql 3 (Operand.tmp 81) (Operand.tmp 84) 3, type := 4, pos := "open.go:30", after := #[{ on := 7, ground := Ground.data }, { on := 10, ground := Ground.data }, { on := 5, ground := Ground.guard }], guard := some (5, true) }) (v := undef) rfl (by kernel_rfl) (by kernel_rfl) (by kernel_rfl) (fun _ _ _ h => h) (Or.inr ⟨by rfl, rfl⟩) (by assumption) ?_
  simp only [Act.put, List.setIfInBounds_toArray, List.set_cons_zero, List.set_cons_succ]
  refine wpAnyH_take (i := 12) (oi := { dst := some 86, op := Op.pick (Operand.tmp 79) (Operand.tmp 85) (Operand.const (Value.bool false)), type := 4, pos := "open.go:30", after := #[{ on := 5, ground := Ground.data }, { on := 11, ground := Ground.data }], guard := none }) (v := .bool false) rfl (by kernel_rfl) (by kernel_rfl) (by kernel_rfl) (fun _ _ _ h => h) (Or.inl ⟨by rfl, ?_⟩) (by assumption) ?_
  · intro w hSw; (try dsimp only at hSw); go_simp
  simp only [Act.put, List.setIfInBounds_toArray, List.set_cons_zero, List.set_cons_succ]
  refine wpAnyH_take (i := 13) (oi := { dst := some 87, op := Op.move (Operand.tmp 86), type := 4, pos := "open.go:30", after := #[{ on := 12, ground := Ground.data }, { on := 10, ground := Ground.chain }], guard := none }) (v := .bool false) rfl (by kernel_rfl) (by kernel_rfl) (by kernel_rfl) (fun _ _ _ h => h) (Or.inl ⟨by rfl, ?_⟩) (by assumption) ?_
  · intro w hSw; (try dsimp only at hSw); go_simp
  simp only [Act.put, List.setIfInBounds_toArray, List.set_cons_zero, List.set_cons_succ]
  refine wpAnyH_take (i := 14) (oi := { dst := some 88, op := Op.fieldAddr 91 (Operand.tmp 14) 2, type := 0, pos := "open.go:30", after := #[{ on := 13, ground := Ground.guard }, { on := 20, ground := Ground.gcOnly Departure.lateStores }], guard := some (13, true) }) (v := undef) rfl (by kernel_rfl) (by kernel_rfl) (by kernel_rfl) (fun _ _ _ h => h) (Or.inr ⟨by rfl, rfl⟩) (by assumption) ?_
  simp only [Act.put, List.setIfInBounds_toArray, List.set_cons_zero, List.set_cons_succ]
  refine wpAnyH_take (i := 15) (oi := { dst := some 89, op := Op.load 3 (Operand.tmp 88), type := 3, pos := "open.go:30", after := #[{ on := 14, ground := Ground.data }, { on := 13, ground := Ground.guard }, { on := 20, ground := Ground.gcOnly Departure.lateStores }], guard := some (13, true) }) (v := undef) rfl (by kernel_rfl) (by kernel_rfl) (by kernel_rfl) (fun _ _ _ h => h) (Or.inr ⟨by rfl, rfl⟩) (by assumption) ?_
  simp only [Act.put, List.setIfInBounds_toArray, List.set_cons_zero, List.set_cons_succ]
  refine wpAnyH_take (i := 16) (oi := { dst := some 90, op := Op.binOp BinOp.add 3 (Operand.tmp 89) (Operand.const (Value.int IntKind.i64 11)) 3, type := 3, pos := "open.go:30", after := #[{ on := 15, ground := Ground.data }, { on := 13, ground := Ground.guard }, { on := 20, ground := Ground.gcOnly Departure.lateStores }], guard := some (13, true) }) (v := undef) rfl (by kernel_rfl) (by kernel_rfl) (by kernel_rfl) (fun _ _ _ h => h) (Or.inr ⟨by rfl, rfl⟩) (by assumption) ?_
  simp only [Act.put, List.setIfInBounds_toArray, List.set_cons_zero, List.set_cons_succ]
  refine wpAnyH_take (i := 17) (oi := { dst := some 91, op := Op.move (Operand.tmp 3), type := 3, pos := "open.go:30", after := #[{ on := 13, ground := Ground.guard }, { on := 20, ground := Ground.gcOnly Departure.lateStores }], guard := some (13, true) }) (v := undef) rfl (by kernel_rfl) (by kernel_rfl) (by kernel_rfl) (fun _ _ _ h => h) (Or.inr ⟨by rfl, rfl⟩) (by assumption) ?_
  simp only [Act.put, List.setIfInBounds_toArray, List.set_cons_zero, List.set_cons_succ]
  refine wpAnyH_take (i := 18) (oi := { dst := some 92, op := Op.binOp BinOp.leq 3 (Operand.tmp 90) (Operand.tmp 91) 3, type := 4, pos := "open.go:30", after := #[{ on := 16, ground := Ground.data }, { on := 17, ground := Ground.data }, { on := 13, ground := Ground.guard }, { on := 20, ground := Ground.gcOnly Departure.lateStores }], guard := some (13, true) }) (v := undef) rfl (by kernel_rfl) (by kernel_rfl) (by kernel_rfl) (fun _ _ _ h => h) (Or.inr ⟨by rfl, rfl⟩) (by assumption) ?_
  simp only [Act.put, List.setIfInBounds_toArray, List.set_cons_zero, List.set_cons_succ]
  refine wpAnyH_take (i := 19) (oi := { dst := some 93, op := Op.pick (Operand.tmp 87) (Operand.tmp 92) (Operand.const (Value.bool false)), type := 4, pos := "open.go:30", after := #[{ on := 13, ground := Ground.data }, { on := 18, ground := Ground.data }, { on := 20, ground := Ground.gcOnly Departure.lateStores }], guard := none }) (v := .bool false) rfl (by kernel_rfl) (by kernel_rfl) (by kernel_rfl) (fun _ _ _ h => h) (Or.inl ⟨by rfl, ?_⟩) (by assumption) ?_
  · intro w hSw; (try dsimp only at hSw); go_simp
  simp only [Act.put, List.setIfInBounds_toArray, List.set_cons_zero, List.set_cons_succ]
  refine wpAnyH_ready (rs := [20]) (by kernel_rfl) (by simp) ?_
  refine AllReadyH.cons (o := { dst := none, op := Op.store 91 (Operand.tmp 8) (Operand.tmp 74), type := 0, pos := "open.go:30", after := #[{ on := 0, ground := Ground.data }, { on := 13, ground := Ground.chain }, { on := 0, ground := Ground.phase }, { on := 1, ground := Ground.textOnly Departure.lateStores }, { on := 2, ground := Ground.textOnly Departure.lateStores }, { on := 3, ground := Ground.textOnly Departure.lateStores }, { on := 4, ground := Ground.textOnly Departure.lateStores }, { on := 5, ground := Ground.textOnly Departure.lateStores }, { on := 6, ground := Ground.textOnly Departure.lateStores }, { on := 7, ground := Ground.textOnly Departure.lateStores }, { on := 8, ground := Ground.textOnly Departure.lateStores }, { on := 9, ground := Ground.textOnly Departure.lateStores }, { on := 10, ground := Ground.textOnly Departure.lateStoresUnsure }, { on := 11, ground := Ground.textOnly Departure.lateStores }, { on := 12, ground := Ground.textOnly Departure.lateStores }, { on := 13, ground := Ground.textOnly Departure.lateStores }, { on := 14, ground := Ground.textOnly Departure.lateStores }, { on := 15, ground := Ground.textOnly Departure.lateStores }, { on := 16, ground := Ground.textOnly Departure.lateStores }, { on := 17, ground := Ground.textOnly Departure.lateStores }, { on := 18, ground := Ground.textOnly Departure.lateStores }, { on := 19, ground := Ground.textOnly Departure.lateStores }], guard := none }) rfl (fun K hK => ?_) AllReadyH.nil
  go_simp
  refine hK.out _ _ ?_ (fun hHeld => ?_)
  · (try simp only [cell_drew]); (try simp only [cell_far _ _ _ _ _ _ hne]); (try simp only [cell_drew]); (refine ⟨?_, ?_, ?_, ?_, ?_⟩ <;> with_reducible assumption)
  clear hK K
  refine wpAnyH_take (i := 21) (oi := { dst := some 9, op := Op.assign (Operand.tmp 93), type := 4, pos := "open.go:30", after := #[{ on := 19, ground := Ground.data }, { on := 20, ground := Ground.chain }, { on := 0, ground := Ground.phase }, { on := 1, ground := Ground.phase }, { on := 2, ground := Ground.phase }, { on := 3, ground := Ground.phase }, { on := 4, ground := Ground.phase }, { on := 5, ground := Ground.phase }, { on := 6, ground := Ground.phase }, { on := 7, ground := Ground.phase }, { on := 8, ground := Ground.phase }, { on := 9, ground := Ground.phase }, { on := 10, ground := Ground.phase }, { on := 11, ground := Ground.phase }, { on := 12, ground := Ground.phase }, { on := 13, ground := Ground.phase }, { on := 14, ground := Ground.phase }, { on := 15, ground := Ground.phase }, { on := 16, ground := Ground.phase }, { on := 17, ground := Ground.phase }, { on := 18, ground := Ground.phase }, { on := 19, ground := Ground.phase }, { on := 20, ground := Ground.phase }], guard := none }) (v := .bool false) rfl (by kernel_rfl) (by kernel_rfl) (by kernel_rfl) (fun _ _ _ h => h) (Or.inl ⟨by rfl, ?_⟩) (by assumption) ?_
  · intro w hSw; (try dsimp only at hSw); go_simp
  simp only [Act.put, List.setIfInBounds_toArray, List.set_cons_zero, List.set_cons_succ]
  refine wpAnyH_done (by kernel_rfl) ?_ _
  exact HK.out _ _ _ _ _ _ _ _ _ _ _ _ _ _ _ _ _ _ _ _
set_option maxRecDepth 1000000 in
set_option maxHeartbeats 8000000 in
theorem regionCounts_b {W : World} {b8 b14 : Nat} {s0 s1 s2 s3 s4 n room x0 : Int} (hne : b14 ≠ b8) {kk : Int} (e1 : (x0 == n) = true) (ew : IntKind.i64.wrap x0 = x0) (hPi : (∀ u : World, Calls Tryd.prog 11 #[.int .i64 s3] u fun e w' => e = .returned (.int .i64 kk) ∧ w' = u)) (e2 : (s2 == kk) = false)
    (h8 : W.heap[b8]? = some (.cells #[.int .i64 0, .int .i64 0, .int .i64 0, .int .i64 0, .int .u32 0] 91 (0, 0)))
    (h14 : W.heap[b14]? = some (.cells #[.int .i64 s0, .int .i64 s1, .int .i64 s2, .int .i64 s3, .int .u32 s4] 91 (0, 0)))
    {r0 r1 r4 r5 r6 r7 r9 r10 r11 r12 r15 r16 r17 r18 r19 r20 r21 r22 r23 r24 r25 r26 r27 r28 r29 r30 r31 r32 r33 r34 r35 r36 r37 r38 r39 r40 r41 r42 r43 r44 r45 r46 r47 r48 r49 r50 r51 r52 r53 r54 r55 r56 r57 r58 r59 r60 r61 r62 r63 r64 r65 r66 r67 r68 r69 r70 r71 r72 r73 r74 r75 r76 r77 r78 r79 r80 r81 r82 r83 r84 r85 r86 r87 r88 r89 r90 r91 r92 r93 : Value} {K1 : Act → World → Prop}
    (hK : ∀ (v74 v75 v76 v77 v78 v79 v80 v81 v82 v83 v84 v85 v86 v87 v88 v89 v90 v91 v92 v93 : Value), K1 ⟨#[r0, r1, .int .i64 n, .int .i64 room, r4, r5, r6, r7, .pointer (some ⟨b8, 0, none⟩), .bool false, r10, r11, r12, .int .u32 x0, .pointer (some ⟨b14, 0, none⟩), r15, r16, r17, r18, r19, r20, r21, r22, r23, r24, r25, r26, r27, r28, r29, r30, r31, r32, r33, r34, r35, r36, r37, r38, r39, r40, r41, r42, r43, r44, r45, r46, r47, r48, r49, r50, r51, r52, r53, r54, r55, r56, r57, r58, r59, r60, r61, r62, r63, r64, r65, r66, r67, r68, r69, r70, r71, r72, r73, v74, v75, v76, v77, v78, v79, v80, v81, v82, v83, v84, v85, v86, v87, v88, v89, v90, v91, v92, v93], []⟩ (Bag.setAll W.drew b8 0 [.int .i64 s0, .int .i64 s1, .int .i64 s2, .int .i64 s3, .int .u32 s4])) :
    Code.wp Tryd.prog codeCounts (Exit.then K1 (fun _ _ _ => False)) ⟨#[r0, r1, .int .i64 n, .int .i64 room, r4, r5, r6, r7, .pointer (some ⟨b8, 0, none⟩), r9, r10, r11, r12, .int .u32 x0, .pointer (some ⟨b14, 0, none⟩), r15, r16, r17, r18, r19, r20, r21, r22, r23, r24, r25, r26, r27, r28, r29, r30, r31, r32, r33, r34, r35, r36, r37, r38, r39, r40, r41, r42, r43, r44, r45, r46, r47, r48, r49, r50, r51, r52, r53, r54, r55, r56, r57, r58, r59, r60, r61, r62, r63, r64, r65, r66, r67, r68, r69, r70, r71, r72, r73, r74, r75, r76, r77, r78, r79, r80, r81, r82, r83, r84, r85, r86, r87, r88, r89, r90, r91, r92, r93], []⟩ W := by
  conv => arg 2; whnf
  obtain ⟨d0, d1, d2, d3, d4, df⟩ := cells5 h14
  obtain ⟨w0, w1, w2, w3, w4, wf⟩ := cells5 h8
  have dl := lt_of_heap h14
  have wl := lt_of_heap h8
  have HK := Lib.hid hK
  clear hK h8 h14
  have HPi := Lib.hid hPi
  clear hPi
  refine wp_region_held_drew (S := fun w' => w'.cell? ⟨b14, 0, none⟩ = some (.int .i64 s0) ∧ w'.cell? ⟨b14, 1, none⟩ = some (.int .i64 s1) ∧ w'.cell? ⟨b14, 2, none⟩ = some (.int .i64 s2) ∧ w'.cell? ⟨b14, 3, none⟩ = some (.int .i64 s3) ∧ w'.cell? ⟨b14, 4, none⟩ = some (.int .u32 s4)) (by kernel_rfl) ?_ (fun hHeld => ?_)
  · exact ⟨d0, d1, d2, d3, d4⟩
  refine wpAnyH_take (i := 0) (oi := { dst := some 74, op := Op.load 91 (Operand.tmp 14), type := 91, pos := "open.go:30", after := #[], guard := none }) (v := .agg #[.int .i64 s0, .int .i64 s1, .int .i64 s2, .int .i64 s3, .int .u32 s4]) rfl (by kernel_rfl) (by kernel_rfl) (by kernel_rfl) (fun _ _ _ h => h) (Or.inl ⟨by rfl, ?_⟩) (by assumption) ?_
  · intro w hSw; (try dsimp only at hSw); go_simp
  simp only [Act.put, List.setIfInBounds_toArray, List.set_cons_zero, List.set_cons_succ]
  refine wpAnyH_take (i := 1) (oi := { dst := some 75, op := Op.move (Operand.tmp 13), type := 89, pos := "open.go:30", after := #[], guard := none }) (v := .int .u32 x0) rfl (by kernel_rfl) (by kernel_rfl) (by kernel_rfl) (fun _ _ _ h => h) (Or.inl ⟨by rfl, ?_⟩) (by assumption) ?_
  · intro w hSw; (try dsimp only at hSw); go_simp
  simp only [Act.put, List.setIfInBounds_toArray, List.set_cons_zero, List.set_cons_succ]
  refine wpAnyH_take (i := 2) (oi := { dst := some 76, op := Op.convert 89 3 (Operand.tmp 75), type := 3, pos := "open.go:30", after := #[{ on := 1, ground := Ground.data }], guard := none }) (v := .int .i64 x0) rfl (by kernel_rfl) (by kernel_rfl) (by kernel_rfl) (fun _ _ _ h => h) (Or.inl ⟨by rfl, ?_⟩) (by assumption) ?_
  · intro w hSw; (try dsimp only at hSw); go_simp
  simp only [Act.put, List.setIfInBounds_toArray, List.set_cons_zero, List.set_cons_succ]
  refine wpAnyH_take (i := 3) (oi := { dst := some 77, op := Op.move (Operand.tmp 2), type := 3, pos := "open.go:30", after := #[], guard := none }) (v := .int .i64 n) rfl (by kernel_rfl) (by kernel_rfl) (by kernel_rfl) (fun _ _ _ h => h) (Or.inl ⟨by rfl, ?_⟩) (by assumption) ?_
  · intro w hSw; (try dsimp only at hSw); go_simp
  simp only [Act.put, List.setIfInBounds_toArray, List.set_cons_zero, List.set_cons_succ]
  refine wpAnyH_take (i := 4) (oi := { dst := some 78, op := Op.binOp BinOp.eql 3 (Operand.tmp 76) (Operand.tmp 77) 3, type := 4, pos := "open.go:30", after := #[{ on := 2, ground := Ground.data }, { on := 3, ground := Ground.data }], guard := none }) (v := .bool true) rfl (by kernel_rfl) (by kernel_rfl) (by kernel_rfl) (fun _ _ _ h => h) (Or.inl ⟨by rfl, ?_⟩) (by assumption) ?_
  · intro w hSw; (try dsimp only at hSw); go_simp
  simp only [Act.put, List.setIfInBounds_toArray, List.set_cons_zero, List.set_cons_succ]
  refine wpAnyH_take (i := 5) (oi := { dst := some 79, op := Op.move (Operand.tmp 78), type := 4, pos := "open.go:30", after := #[{ on := 4, ground := Ground.data }], guard := none }) (v := .bool true) rfl (by kernel_rfl) (by kernel_rfl) (by kernel_rfl) (fun _ _ _ h => h) (Or.inl ⟨by rfl, ?_⟩) (by assumption) ?_
  · intro w hSw; (try dsimp only at hSw); go_simp
  simp only [Act.put, List.setIfInBounds_toArray, List.set_cons_zero, List.set_cons_succ]
  refine wpAnyH_take (i := 6) (oi := { dst := some 80, op := Op.fieldAddr 91 (Operand.tmp 14) 2, type := 0, pos := "open.go:30", after := #[{ on := 5, ground := Ground.guard }], guard := some (5, true) }) (v := .pointer (some ⟨b14, 2, none⟩)) rfl (by kernel_rfl) (by kernel_rfl) (by kernel_rfl) (fun _ _ _ h => h) (Or.inl ⟨by rfl, ?_⟩) (by assumption) ?_
  · intro w hSw; (try dsimp only at hSw); go_simp
  simp only [Act.put, List.setIfInBounds_toArray, List.set_cons_zero, List.set_cons_succ]
  refine wpAnyH_take (i := 7) (oi := { dst := some 81, op := Op.load 3 (Operand.tmp 80), type := 3, pos := "open.go:30", after := #[{ on := 6, ground := Ground.data }, { on := 5, ground := Ground.guard }], guard := some (5, true) }) (v := .int .i64 s2) rfl (by kernel_rfl) (by kernel_rfl) (by kernel_rfl) (fun _ _ _ h => h) (Or.inl ⟨by rfl, ?_⟩) (by assumption) ?_
  · intro w hSw; (try dsimp only at hSw); go_simp
  simp only [Act.put, List.setIfInBounds_toArray, List.set_cons_zero, List.set_cons_succ]
  refine wpAnyH_take (i := 8) (oi := { dst := some 82, op := Op.fieldAddr 91 (Operand.tmp 14) 3, type := 0, pos := "open.go:30", after := #[{ on := 5, ground := Ground.guard }], guard := some (5, true) }) (v := .pointer (some ⟨b14, 3, none⟩)) rfl (by kernel_rfl) (by kernel_rfl) (by kernel_rfl) (fun _ _ _ h => h) (Or.inl ⟨by rfl, ?_⟩) (by assumption) ?_
  · intro w hSw; (try dsimp only at hSw); go_simp
  simp only [Act.put, List.setIfInBounds_toArray, List.set_cons_zero, List.set_cons_succ]
  refine wpAnyH_take (i := 9) (oi := { dst := some 83, op := Op.load 3 (Operand.tmp 82), type := 3, pos := "open.go:30", after := #[{ on := 8, ground := Ground.data }, { on := 5, ground := Ground.guard }], guard := some (5, true) }) (v := .int .i64 s3) rfl (by kernel_rfl) (by kernel_rfl) (by kernel_rfl) (fun _ _ _ h => h) (Or.inl ⟨by rfl, ?_⟩) (by assumption) ?_
  · intro w hSw; (try dsimp only at hSw); go_simp
  simp only [Act.put, List.setIfInBounds_toArray, List.set_cons_zero, List.set_cons_succ]
  refine wpAnyH_ready (rs := [10]) (by kernel_rfl) (by simp) ?_
  refine AllReadyH.cons (o := { dst := some 84, op := Op.call { callee := Callee.value (Operand.func 11), args := #[Operand.tmp 83], argTypes := #[3] }, type := 3, pos := "open.go:30", after := #[{ on := 9, ground := Ground.data }, { on := 5, ground := Ground.chain }, { on := 5, ground := Ground.guard }], guard := some (5, true) }) rfl (fun K hK => ?_) AllReadyH.nil
  go_wp2_with fail
  refine (HPi.out _).mono ?_
  rintro e w' ⟨rfl, hw⟩
  obtain rfl := hw
  go_wp2_with fail
  refine hK.out _ _ ?_ (fun hHeld => ?_)
  · (try simp only [cell_drew]); (try simp only [cell_far _ _ _ _ _ _ hne]); (try simp only [cell_drew]); (refine ⟨?_, ?_, ?_, ?_, ?_⟩ <;> with_reducible assumption)
  clear hK K
  try simp only [Act.put, List.setIfInBounds_toArray, List.set_cons_zero, List.set_cons_succ]
  refine wpAnyH_take (i := 11) (oi := { dst := some 85, op := Op.binOp BinOp.eql 3 (Operand.tmp 81) (Operand.tmp 84) 3, type := 4, pos := "open.go:30", after := #[{ on := 7, ground := Ground.data }, { on := 10, ground := Ground.data }, { on := 5, ground := Ground.guard }], guard := some (5, true) }) (v := .bool false) rfl (by kernel_rfl) (by kernel_rfl) (by kernel_rfl) (fun _ _ _ h => h) (Or.inl ⟨by rfl, ?_⟩) (by assumption) ?_
  · intro w hSw; (try dsimp only at hSw); go_simp
  simp only [Act.put, List.setIfInBounds_toArray, List.set_cons_zero, List.set_cons_succ]
  refine wpAnyH_take (i := 12) (oi := { dst := some 86, op := Op.pick (Operand.tmp 79) (Operand.tmp 85) (Operand.const (Value.bool false)), type := 4, pos := "open.go:30", after := #[{ on := 5, ground := Ground.data }, { on := 11, ground := Ground.data }], guard := none }) (v := .bool false) rfl (by kernel_rfl) (by kernel_rfl) (by kernel_rfl) (fun _ _ _ h => h) (Or.inl ⟨by rfl, ?_⟩) (by assumption) ?_
  · intro w hSw; (try dsimp only at hSw); go_simp
  simp only [Act.put, List.setIfInBounds_toArray, List.set_cons_zero, List.set_cons_succ]
  refine wpAnyH_take (i := 13) (oi := { dst := some 87, op := Op.move (Operand.tmp 86), type := 4, pos := "open.go:30", after := #[{ on := 12, ground := Ground.data }, { on := 10, ground := Ground.chain }], guard := none }) (v := .bool false) rfl (by kernel_rfl) (by kernel_rfl) (by kernel_rfl) (fun _ _ _ h => h) (Or.inl ⟨by rfl, ?_⟩) (by assumption) ?_
  · intro w hSw; (try dsimp only at hSw); go_simp
  simp only [Act.put, List.setIfInBounds_toArray, List.set_cons_zero, List.set_cons_succ]
  refine wpAnyH_take (i := 14) (oi := { dst := some 88, op := Op.fieldAddr 91 (Operand.tmp 14) 2, type := 0, pos := "open.go:30", after := #[{ on := 13, ground := Ground.guard }, { on := 20, ground := Ground.gcOnly Departure.lateStores }], guard := some (13, true) }) (v := undef) rfl (by kernel_rfl) (by kernel_rfl) (by kernel_rfl) (fun _ _ _ h => h) (Or.inr ⟨by rfl, rfl⟩) (by assumption) ?_
  simp only [Act.put, List.setIfInBounds_toArray, List.set_cons_zero, List.set_cons_succ]
  refine wpAnyH_take (i := 15) (oi := { dst := some 89, op := Op.load 3 (Operand.tmp 88), type := 3, pos := "open.go:30", after := #[{ on := 14, ground := Ground.data }, { on := 13, ground := Ground.guard }, { on := 20, ground := Ground.gcOnly Departure.lateStores }], guard := some (13, true) }) (v := undef) rfl (by kernel_rfl) (by kernel_rfl) (by kernel_rfl) (fun _ _ _ h => h) (Or.inr ⟨by rfl, rfl⟩) (by assumption) ?_
  simp only [Act.put, List.setIfInBounds_toArray, List.set_cons_zero, List.set_cons_succ]
  refine wpAnyH_take (i := 16) (oi := { dst := some 90, op := Op.binOp BinOp.add 3 (Operand.tmp 89) (Operand.const (Value.int IntKind.i64 11)) 3, type := 3, pos := "open.go:30", after := #[{ on := 15, ground := Ground.data }, { on := 13, ground := Ground.guard }, { on := 20, ground := Ground.gcOnly Departure.lateStores }], guard := some (13, true) }) (v := undef) rfl (by kernel_rfl) (by kernel_rfl) (by kernel_rfl) (fun _ _ _ h => h) (Or.inr ⟨by rfl, rfl⟩) (by assumption) ?_
  simp only [Act.put, List.setIfInBounds_toArray, List.set_cons_zero, List.set_cons_succ]
  refine wpAnyH_take (i := 17) (oi := { dst := some 91, op := Op.move (Operand.tmp 3), type := 3, pos := "open.go:30", after := #[{ on := 13, ground := Ground.guard }, { on := 20, ground := Ground.gcOnly Departure.lateStores }], guard := some (13, true) }) (v := undef) rfl (by kernel_rfl) (by kernel_rfl) (by kernel_rfl) (fun _ _ _ h => h) (Or.inr ⟨by rfl, rfl⟩) (by assumption) ?_
  simp only [Act.put, List.setIfInBounds_toArray, List.set_cons_zero, List.set_cons_succ]
  refine wpAnyH_take (i := 18) (oi := { dst := some 92, op := Op.binOp BinOp.leq 3 (Operand.tmp 90) (Operand.tmp 91) 3, type := 4, pos := "open.go:30", after := #[{ on := 16, ground := Ground.data }, { on := 17, ground := Ground.data }, { on := 13, ground := Ground.guard }, { on := 20, ground := Ground.gcOnly Departure.lateStores }], guard := some (13, true) }) (v := undef) rfl (by kernel_rfl) (by kernel_rfl) (by kernel_rfl) (fun _ _ _ h => h) (Or.inr ⟨by rfl, rfl⟩) (by assumption) ?_
  simp only [Act.put, List.setIfInBounds_toArray, List.set_cons_zero, List.set_cons_succ]
  refine wpAnyH_take (i := 19) (oi := { dst := some 93, op := Op.pick (Operand.tmp 87) (Operand.tmp 92) (Operand.const (Value.bool false)), type := 4, pos := "open.go:30", after := #[{ on := 13, ground := Ground.data }, { on := 18, ground := Ground.data }, { on := 20, ground := Ground.gcOnly Departure.lateStores }], guard := none }) (v := .bool false) rfl (by kernel_rfl) (by kernel_rfl) (by kernel_rfl) (fun _ _ _ h => h) (Or.inl ⟨by rfl, ?_⟩) (by assumption) ?_
  · intro w hSw; (try dsimp only at hSw); go_simp
  simp only [Act.put, List.setIfInBounds_toArray, List.set_cons_zero, List.set_cons_succ]
  refine wpAnyH_ready (rs := [20]) (by kernel_rfl) (by simp) ?_
  refine AllReadyH.cons (o := { dst := none, op := Op.store 91 (Operand.tmp 8) (Operand.tmp 74), type := 0, pos := "open.go:30", after := #[{ on := 0, ground := Ground.data }, { on := 13, ground := Ground.chain }, { on := 0, ground := Ground.phase }, { on := 1, ground := Ground.textOnly Departure.lateStores }, { on := 2, ground := Ground.textOnly Departure.lateStores }, { on := 3, ground := Ground.textOnly Departure.lateStores }, { on := 4, ground := Ground.textOnly Departure.lateStores }, { on := 5, ground := Ground.textOnly Departure.lateStores }, { on := 6, ground := Ground.textOnly Departure.lateStores }, { on := 7, ground := Ground.textOnly Departure.lateStores }, { on := 8, ground := Ground.textOnly Departure.lateStores }, { on := 9, ground := Ground.textOnly Departure.lateStores }, { on := 10, ground := Ground.textOnly Departure.lateStoresUnsure }, { on := 11, ground := Ground.textOnly Departure.lateStores }, { on := 12, ground := Ground.textOnly Departure.lateStores }, { on := 13, ground := Ground.textOnly Departure.lateStores }, { on := 14, ground := Ground.textOnly Departure.lateStores }, { on := 15, ground := Ground.textOnly Departure.lateStores }, { on := 16, ground := Ground.textOnly Departure.lateStores }, { on := 17, ground := Ground.textOnly Departure.lateStores }, { on := 18, ground := Ground.textOnly Departure.lateStores }, { on := 19, ground := Ground.textOnly Departure.lateStores }], guard := none }) rfl (fun K hK => ?_) AllReadyH.nil
  go_simp
  refine hK.out _ _ ?_ (fun hHeld => ?_)
  · (try simp only [cell_drew]); (try simp only [cell_far _ _ _ _ _ _ hne]); (try simp only [cell_drew]); (refine ⟨?_, ?_, ?_, ?_, ?_⟩ <;> with_reducible assumption)
  clear hK K
  refine wpAnyH_take (i := 21) (oi := { dst := some 9, op := Op.assign (Operand.tmp 93), type := 4, pos := "open.go:30", after := #[{ on := 19, ground := Ground.data }, { on := 20, ground := Ground.chain }, { on := 0, ground := Ground.phase }, { on := 1, ground := Ground.phase }, { on := 2, ground := Ground.phase }, { on := 3, ground := Ground.phase }, { on := 4, ground := Ground.phase }, { on := 5, ground := Ground.phase }, { on := 6, ground := Ground.phase }, { on := 7, ground := Ground.phase }, { on := 8, ground := Ground.phase }, { on := 9, ground := Ground.phase }, { on := 10, ground := Ground.phase }, { on := 11, ground := Ground.phase }, { on := 12, ground := Ground.phase }, { on := 13, ground := Ground.phase }, { on := 14, ground := Ground.phase }, { on := 15, ground := Ground.phase }, { on := 16, ground := Ground.phase }, { on := 17, ground := Ground.phase }, { on := 18, ground := Ground.phase }, { on := 19, ground := Ground.phase }, { on := 20, ground := Ground.phase }], guard := none }) (v := .bool false) rfl (by kernel_rfl) (by kernel_rfl) (by kernel_rfl) (fun _ _ _ h => h) (Or.inl ⟨by rfl, ?_⟩) (by assumption) ?_
  · intro w hSw; (try dsimp only at hSw); go_simp
  simp only [Act.put, List.setIfInBounds_toArray, List.set_cons_zero, List.set_cons_succ]
  refine wpAnyH_done (by kernel_rfl) ?_ _
  exact HK.out _ _ _ _ _ _ _ _ _ _ _ _ _ _ _ _ _ _ _ _
set_option maxRecDepth 1000000 in
set_option maxHeartbeats 8000000 in
theorem regionCounts_c {W : World} {b8 b14 : Nat} {s0 s1 s2 s3 s4 n room x0 : Int} (hne : b14 ≠ b8) {kk y : Int} (e1 : (x0 == n) = true) (ew : IntKind.i64.wrap x0 = x0) (hPi : (∀ u : World, Calls Tryd.prog 11 #[.int .i64 s3] u fun e w' => e = .returned (.int .i64 kk) ∧ w' = u)) (e2 : (s2 == kk) = true) (e3 : s2 + 11 = y) (e4 : IntKind.i64.wrap y = y)
    (h8 : W.heap[b8]? = some (.cells #[.int .i64 0, .int .i64 0, .int .i64 0, .int .i64 0, .int .u32 0] 91 (0, 0)))
    (h14 : W.heap[b14]? = some (.cells #[.int .i64 s0, .int .i64 s1, .int .i64 s2, .int .i64 s3, .int .u32 s4] 91 (0, 0)))
    {r0 r1 r4 r5 r6 r7 r9 r10 r11 r12 r15 r16 r17 r18 r19 r20 r21 r22 r23 r24 r25 r26 r27 r28 r29 r30 r31 r32 r33 r34 r35 r36 r37 r38 r39 r40 r41 r42 r43 r44 r45 r46 r47 r48 r49 r50 r51 r52 r53 r54 r55 r56 r57 r58 r59 r60 r61 r62 r63 r64 r65 r66 r67 r68 r69 r70 r71 r72 r73 r74 r75 r76 r77 r78 r79 r80 r81 r82 r83 r84 r85 r86 r87 r88 r89 r90 r91 r92 r93 : Value} {K1 : Act → World → Prop}
    (hK : ∀ (v74 v75 v76 v77 v78 v79 v80 v81 v82 v83 v84 v85 v86 v87 v88 v89 v90 v91 v92 v93 : Value), K1 ⟨#[r0, r1, .int .i64 n, .int .i64 room, r4, r5, r6, r7, .pointer (some ⟨b8, 0, none⟩), .bool (decide (y ≤ room)), r10, r11, r12, .int .u32 x0, .pointer (some ⟨b14, 0, none⟩), r15, r16, r17, r18, r19, r20, r21, r22, r23, r24, r25, r26, r27, r28, r29, r30, r31, r32, r33, r34, r35, r36, r37, r38, r39, r40, r41, r42, r43, r44, r45, r46, r47, r48, r49, r50, r51, r52, r53, r54, r55, r56, r57, r58, r59, r60, r61, r62, r63, r64, r65, r66, r67, r68, r69, r70, r71, r72, r73, v74, v75, v76, v77, v78, v79, v80, v81, v82, v83, v84, v85, v86, v87, v88, v89, v90, v91, v92, v93], []⟩ (Bag.setAll W.drew b8 0 [.int .i64 s0, .int .i64 s1, .int .i64 s2, .int .i64 s3, .int .u32 s4])) :
    Code.wp Tryd.prog codeCounts (Exit.then K1 (fun _ _ _ => False)) ⟨#[r0, r1, .int .i64 n, .int .i64 room, r4, r5, r6, r7, .pointer (some ⟨b8, 0, none⟩), r9, r10, r11, r12, .int .u32 x0, .pointer (some ⟨b14, 0, none⟩), r15, r16, r17, r18, r19, r20, r21, r22, r23, r24, r25, r26, r27, r28, r29, r30, r31, r32, r33, r34, r35, r36, r37, r38, r39, r40, r41, r42, r43, r44, r45, r46, r47, r48, r49, r50, r51, r52, r53, r54, r55, r56, r57, r58, r59, r60, r61, r62, r63, r64, r65, r66, r67, r68, r69, r70, r71, r72, r73, r74, r75, r76, r77, r78, r79, r80, r81, r82, r83, r84, r85, r86, r87, r88, r89, r90, r91, r92, r93], []⟩ W := by
  conv => arg 2; whnf
  obtain ⟨d0, d1, d2, d3, d4, df⟩ := cells5 h14
  obtain ⟨w0, w1, w2, w3, w4, wf⟩ := cells5 h8
  have dl := lt_of_heap h14
  have wl := lt_of_heap h8
  have HK := Lib.hid hK
  clear hK h8 h14
  have HPi := Lib.hid hPi
  clear hPi
  refine wp_region_held_drew (S := fun w' => w'.cell? ⟨b14, 0, none⟩ = some (.int .i64 s0) ∧ w'.cell? ⟨b14, 1, none⟩ = some (.int .i64 s1) ∧ w'.cell? ⟨b14, 2, none⟩ = some (.int .i64 s2) ∧ w'.cell? ⟨b14, 3, none⟩ = some (.int .i64 s3) ∧ w'.cell? ⟨b14, 4, none⟩ = some (.int .u32 s4)) (by kernel_rfl) ?_ (fun hHeld => ?_)
  · exact ⟨d0, d1, d2, d3, d4⟩
  refine wpAnyH_take (i := 0) (oi := { dst := some 74, op := Op.load 91 (Operand.tmp 14), type := 91, pos := "open.go:30", after := #[], guard := none }) (v := .agg #[.int .i64 s0, .int .i64 s1, .int .i64 s2, .int .i64 s3, .int .u32 s4]) rfl (by kernel_rfl) (by kernel_rfl) (by kernel_rfl) (fun _ _ _ h => h) (Or.inl ⟨by rfl, ?_⟩) (by assumption) ?_
  · intro w hSw; (try dsimp only at hSw); go_simp
  simp only [Act.put, List.setIfInBounds_toArray, List.set_cons_zero, List.set_cons_succ]
  refine wpAnyH_take (i := 1) (oi := { dst := some 75, op := Op.move (Operand.tmp 13), type := 89, pos := "open.go:30", after := #[], guard := none }) (v := .int .u32 x0) rfl (by kernel_rfl) (by kernel_rfl) (by kernel_rfl) (fun _ _ _ h => h) (Or.inl ⟨by rfl, ?_⟩) (by assumption) ?_
  · intro w hSw; (try dsimp only at hSw); go_simp
  simp only [Act.put, List.setIfInBounds_toArray, List.set_cons_zero, List.set_cons_succ]
  refine wpAnyH_take (i := 2) (oi := { dst := some 76, op := Op.convert 89 3 (Operand.tmp 75), type := 3, pos := "open.go:30", after := #[{ on := 1, ground := Ground.data }], guard := none }) (v := .int .i64 x0) rfl (by kernel_rfl) (by kernel_rfl) (by kernel_rfl) (fun _ _ _ h => h) (Or.inl ⟨by rfl, ?_⟩) (by assumption) ?_
  · intro w hSw; (try dsimp only at hSw); go_simp
  simp only [Act.put, List.setIfInBounds_toArray, List.set_cons_zero, List.set_cons_succ]
  refine wpAnyH_take (i := 3) (oi := { dst := some 77, op := Op.move (Operand.tmp 2), type := 3, pos := "open.go:30", after := #[], guard := none }) (v := .int .i64 n) rfl (by kernel_rfl) (by kernel_rfl) (by kernel_rfl) (fun _ _ _ h => h) (Or.inl ⟨by rfl, ?_⟩) (by assumption) ?_
  · intro w hSw; (try dsimp only at hSw); go_simp
  simp only [Act.put, List.setIfInBounds_toArray, List.set_cons_zero, List.set_cons_succ]
  refine wpAnyH_take (i := 4) (oi := { dst := some 78, op := Op.binOp BinOp.eql 3 (Operand.tmp 76) (Operand.tmp 77) 3, type := 4, pos := "open.go:30", after := #[{ on := 2, ground := Ground.data }, { on := 3, ground := Ground.data }], guard := none }) (v := .bool true) rfl (by kernel_rfl) (by kernel_rfl) (by kernel_rfl) (fun _ _ _ h => h) (Or.inl ⟨by rfl, ?_⟩) (by assumption) ?_
  · intro w hSw; (try dsimp only at hSw); go_simp
  simp only [Act.put, List.setIfInBounds_toArray, List.set_cons_zero, List.set_cons_succ]
  refine wpAnyH_take (i := 5) (oi := { dst := some 79, op := Op.move (Operand.tmp 78), type := 4, pos := "open.go:30", after := #[{ on := 4, ground := Ground.data }], guard := none }) (v := .bool true) rfl (by kernel_rfl) (by kernel_rfl) (by kernel_rfl) (fun _ _ _ h => h) (Or.inl ⟨by rfl, ?_⟩) (by assumption) ?_
  · intro w hSw; (try dsimp only at hSw); go_simp
  simp only [Act.put, List.setIfInBounds_toArray, List.set_cons_zero, List.set_cons_succ]
  refine wpAnyH_take (i := 6) (oi := { dst := some 80, op := Op.fieldAddr 91 (Operand.tmp 14) 2, type := 0, pos := "open.go:30", after := #[{ on := 5, ground := Ground.guard }], guard := some (5, true) }) (v := .pointer (some ⟨b14, 2, none⟩)) rfl (by kernel_rfl) (by kernel_rfl) (by kernel_rfl) (fun _ _ _ h => h) (Or.inl ⟨by rfl, ?_⟩) (by assumption) ?_
  · intro w hSw; (try dsimp only at hSw); go_simp
  simp only [Act.put, List.setIfInBounds_toArray, List.set_cons_zero, List.set_cons_succ]
  refine wpAnyH_take (i := 7) (oi := { dst := some 81, op := Op.load 3 (Operand.tmp 80), type := 3, pos := "open.go:30", after := #[{ on := 6, ground := Ground.data }, { on := 5, ground := Ground.guard }], guard := some (5, true) }) (v := .int .i64 s2) rfl (by kernel_rfl) (by kernel_rfl) (by kernel_rfl) (fun _ _ _ h => h) (Or.inl ⟨by rfl, ?_⟩) (by assumption) ?_
  · intro w hSw; (try dsimp only at hSw); go_simp
  simp only [Act.put, List.setIfInBounds_toArray, List.set_cons_zero, List.set_cons_succ]
  refine wpAnyH_take (i := 8) (oi := { dst := some 82, op := Op.fieldAddr 91 (Operand.tmp 14) 3, type := 0, pos := "open.go:30", after := #[{ on := 5, ground := Ground.guard }], guard := some (5, true) }) (v := .pointer (some ⟨b14, 3, none⟩)) rfl (by kernel_rfl) (by kernel_rfl) (by kernel_rfl) (fun _ _ _ h => h) (Or.inl ⟨by rfl, ?_⟩) (by assumption) ?_
  · intro w hSw; (try dsimp only at hSw); go_simp
  simp only [Act.put, List.setIfInBounds_toArray, List.set_cons_zero, List.set_cons_succ]
  refine wpAnyH_take (i := 9) (oi := { dst := some 83, op := Op.load 3 (Operand.tmp 82), type := 3, pos := "open.go:30", after := #[{ on := 8, ground := Ground.data }, { on := 5, ground := Ground.guard }], guard := some (5, true) }) (v := .int .i64 s3) rfl (by kernel_rfl) (by kernel_rfl) (by kernel_rfl) (fun _ _ _ h => h) (Or.inl ⟨by rfl, ?_⟩) (by assumption) ?_
  · intro w hSw; (try dsimp only at hSw); go_simp
  simp only [Act.put, List.setIfInBounds_toArray, List.set_cons_zero, List.set_cons_succ]
  refine wpAnyH_ready (rs := [10]) (by kernel_rfl) (by simp) ?_
  refine AllReadyH.cons (o := { dst := some 84, op := Op.call { callee := Callee.value (Operand.func 11), args := #[Operand.tmp 83], argTypes := #[3] }, type := 3, pos := "open.go:30", after := #[{ on := 9, ground := Ground.data }, { on := 5, ground := Ground.chain }, { on := 5, ground := Ground.guard }], guard := some (5, true) }) rfl (fun K hK => ?_) AllReadyH.nil
  go_wp2_with fail
  refine (HPi.out _).mono ?_
  rintro e w' ⟨rfl, hw⟩
  obtain rfl := hw
  go_wp2_with fail
  refine hK.out _ _ ?_ (fun hHeld => ?_)
  · (try simp only [cell_drew]); (try simp only [cell_far _ _ _ _ _ _ hne]); (try simp only [cell_drew]); (refine ⟨?_, ?_, ?_, ?_, ?_⟩ <;> with_reducible assumption)
  clear hK K
  try simp only [Act.put, List.setIfInBounds_toArray, List.set_cons_zero, List.set_cons_succ]
  refine wpAnyH_take (i := 11) (oi := { dst := some 85, op := Op.binOp BinOp.eql 3 (Operand.tmp 81) (Operand.tmp 84) 3, type := 4, pos := "open.go:30", after := #[{ on := 7, ground := Ground.data }, { on := 10, ground := Ground.data }, { on := 5, ground := Ground.guard }], guard := some (5, true) }) (v := .bool true) rfl (by kernel_rfl) (by kernel_rfl) (by kernel_rfl) (fun _ _ _ h => h) (Or.inl ⟨by rfl, ?_⟩) (by assumption) ?_
  · intro w hSw; (try dsimp only at hSw); go_simp
  simp only [Act.put, List.setIfInBounds_toArray, List.set_cons_zero, List.set_cons_succ]
  refine wpAnyH_take (i := 12) (oi := { dst := some 86, op := Op.pick (Operand.tmp 79) (Operand.tmp 85) (Operand.const (Value.bool false)), type := 4, pos := "open.go:30", after := #[{ on := 5, ground := Ground.data }, { on := 11, ground := Ground.data }], guard := none }) (v := .bool true) rfl (by kernel_rfl) (by kernel_rfl) (by kernel_rfl) (fun _ _ _ h => h) (Or.inl ⟨by rfl, ?_⟩) (by assumption) ?_
  · intro w hSw; (try dsimp only at hSw); go_simp
  simp only [Act.put, List.setIfInBounds_toArray, List.set_cons_zero, List.set_cons_succ]
  refine wpAnyH_take (i := 13) (oi := { dst := some 87, op := Op.move (Operand.tmp 86), type := 4, pos := "open.go:30", after := #[{ on := 12, ground := Ground.data }, { on := 10, ground := Ground.chain }], guard := none }) (v := .bool true) rfl (by kernel_rfl) (by kernel_rfl) (by kernel_rfl) (fun _ _ _ h => h) (Or.inl ⟨by rfl, ?_⟩) (by assumption) ?_
  · intro w hSw; (try dsimp only at hSw); go_simp
  simp only [Act.put, List.setIfInBounds_toArray, List.set_cons_zero, List.set_cons_succ]
  refine wpAnyH_take (i := 14) (oi := { dst := some 88, op := Op.fieldAddr 91 (Operand.tmp 14) 2, type := 0, pos := "open.go:30", after := #[{ on := 13, ground := Ground.guard }, { on := 20, ground := Ground.gcOnly Departure.lateStores }], guard := some (13, true) }) (v := .pointer (some ⟨b14, 2, none⟩)) rfl (by kernel_rfl) (by kernel_rfl) (by kernel_rfl) (fun _ _ _ h => h) (Or.inl ⟨by rfl, ?_⟩) (by assumption) ?_
  · intro w hSw; (try dsimp only at hSw); go_simp
  simp only [Act.put, List.setIfInBounds_toArray, List.set_cons_zero, List.set_cons_succ]
  refine wpAnyH_take (i := 15) (oi := { dst := some 89, op := Op.load 3 (Operand.tmp 88), type := 3, pos := "open.go:30", after := #[{ on := 14, ground := Ground.data }, { on := 13, ground := Ground.guard }, { on := 20, ground := Ground.gcOnly Departure.lateStores }], guard := some (13, true) }) (v := .int .i64 s2) rfl (by kernel_rfl) (by kernel_rfl) (by kernel_rfl) (fun _ _ _ h => h) (Or.inl ⟨by rfl, ?_⟩) (by assumption) ?_
  · intro w hSw; (try dsimp only at hSw); go_simp
  simp only [Act.put, List.setIfInBounds_toArray, List.set_cons_zero, List.set_cons_succ]
  refine wpAnyH_take (i := 16) (oi := { dst := some 90, op := Op.binOp BinOp.add 3 (Operand.tmp 89) (Operand.const (Value.int IntKind.i64 11)) 3, type := 3, pos := "open.go:30", after := #[{ on := 15, ground := Ground.data }, { on := 13, ground := Ground.guard }, { on := 20, ground := Ground.gcOnly Departure.lateStores }], guard := some (13, true) }) (v := .int .i64 y) rfl (by kernel_rfl) (by kernel_rfl) (by kernel_rfl) (fun _ _ _ h => h) (Or.inl ⟨by rfl, ?_⟩) (by assumption) ?_
  · intro w hSw; (try dsimp only at hSw); go_simp
  simp only [Act.put, List.setIfInBounds_toArray, List.set_cons_zero, List.set_cons_succ]
  refine wpAnyH_take (i := 17) (oi := { dst := some 91, op := Op.move (Operand.tmp 3), type := 3, pos := "open.go:30", after := #[{ on := 13, ground := Ground.guard }, { on := 20, ground := Ground.gcOnly Departure.lateStores }], guard := some (13, true) }) (v := .int .i64 room) rfl (by kernel_rfl) (by kernel_rfl) (by kernel_rfl) (fun _ _ _ h => h) (Or.inl ⟨by rfl, ?_⟩) (by assumption) ?_
  · intro w hSw; (try dsimp only at hSw); go_simp
  simp only [Act.put, List.setIfInBounds_toArray, List.set_cons_zero, List.set_cons_succ]
  refine wpAnyH_take (i := 18) (oi := { dst := some 92, op := Op.binOp BinOp.leq 3 (Operand.tmp 90) (Operand.tmp 91) 3, type := 4, pos := "open.go:30", after := #[{ on := 16, ground := Ground.data }, { on := 17, ground := Ground.data }, { on := 13, ground := Ground.guard }, { on := 20, ground := Ground.gcOnly Departure.lateStores }], guard := some (13, true) }) (v := .bool (decide (y ≤ room))) rfl (by kernel_rfl) (by kernel_rfl) (by kernel_rfl) (fun _ _ _ h => h) (Or.inl ⟨by rfl, ?_⟩) (by assumption) ?_
  · intro w hSw; (try dsimp only at hSw); go_simp
  simp only [Act.put, List.setIfInBounds_toArray, List.set_cons_zero, List.set_cons_succ]
  refine wpAnyH_take (i := 19) (oi := { dst := some 93, op := Op.pick (Operand.tmp 87) (Operand.tmp 92) (Operand.const (Value.bool false)), type := 4, pos := "open.go:30", after := #[{ on := 13, ground := Ground.data }, { on := 18, ground := Ground.data }, { on := 20, ground := Ground.gcOnly Departure.lateStores }], guard := none }) (v := .bool (decide (y ≤ room))) rfl (by kernel_rfl) (by kernel_rfl) (by kernel_rfl) (fun _ _ _ h => h) (Or.inl ⟨by rfl, ?_⟩) (by assumption) ?_
  · intro w hSw; (try dsimp only at hSw); go_simp
  simp only [Act.put, List.setIfInBounds_toArray, List.set_cons_zero, List.set_cons_succ]
  refine wpAnyH_ready (rs := [20]) (by kernel_rfl) (by simp) ?_
  refine AllReadyH.cons (o := { dst := none, op := Op.store 91 (Operand.tmp 8) (Operand.tmp 74), type := 0, pos := "open.go:30", after := #[{ on := 0, ground := Ground.data }, { on := 13, ground := Ground.chain }, { on := 0, ground := Ground.phase }, { on := 1, ground := Ground.textOnly Departure.lateStores }, { on := 2, ground := Ground.textOnly Departure.lateStores }, { on := 3, ground := Ground.textOnly Departure.lateStores }, { on := 4, ground := Ground.textOnly Departure.lateStores }, { on := 5, ground := Ground.textOnly Departure.lateStores }, { on := 6, ground := Ground.textOnly Departure.lateStores }, { on := 7, ground := Ground.textOnly Departure.lateStores }, { on := 8, ground := Ground.textOnly Departure.lateStores }, { on := 9, ground := Ground.textOnly Departure.lateStores }, { on := 10, ground := Ground.textOnly Departure.lateStoresUnsure }, { on := 11, ground := Ground.textOnly Departure.lateStores }, { on := 12, ground := Ground.textOnly Departure.lateStores }, { on := 13, ground := Ground.textOnly Departure.lateStores }, { on := 14, ground := Ground.textOnly Departure.lateStores }, { on := 15, ground := Ground.textOnly Departure.lateStores }, { on := 16, ground := Ground.textOnly Departure.lateStores }, { on := 17, ground := Ground.textOnly Departure.lateStores }, { on := 18, ground := Ground.textOnly Departure.lateStores }, { on := 19, ground := Ground.textOnly Departure.lateStores }], guard := none }) rfl (fun K hK => ?_) AllReadyH.nil
  go_simp
  refine hK.out _ _ ?_ (fun hHeld => ?_)
  · (try simp only [cell_drew]); (try simp only [cell_far _ _ _ _ _ _ hne]); (try simp only [cell_drew]); (refine ⟨?_, ?_, ?_, ?_, ?_⟩ <;> with_reducible assumption)
  clear hK K
  refine wpAnyH_take (i := 21) (oi := { dst := some 9, op := Op.assign (Operand.tmp 93), type := 4, pos := "open.go:30", after := #[{ on := 19, ground := Ground.data }, { on := 20, ground := Ground.chain }, { on := 0, ground := Ground.phase }, { on := 1, ground := Ground.phase }, { on := 2, ground := Ground.phase }, { on := 3, ground := Ground.phase }, { on := 4, ground := Ground.phase }, { on := 5, ground := Ground.phase }, { on := 6, ground := Ground.phase }, { on := 7, ground := Ground.phase }, { on := 8, ground := Ground.phase }, { on := 9, ground := Ground.phase }, { on := 10, ground := Ground.phase }, { on := 11, ground := Ground.phase }, { on := 12, ground := Ground.phase }, { on := 13, ground := Ground.phase }, { on := 14, ground := Ground.phase }, { on := 15, ground := Ground.phase }, { on := 16, ground := Ground.phase }, { on := 17, ground := Ground.phase }, { on := 18, ground := Ground.phase }, { on := 19, ground := Ground.phase }, { on := 20, ground := Ground.phase }], guard := none }) (v := .bool (decide (y ≤ room))) rfl (by kernel_rfl) (by kernel_rfl) (by kernel_rfl) (fun _ _ _ h => h) (Or.inl ⟨by rfl, ?_⟩) (by assumption) ?_
  · intro w hSw; (try dsimp only at hSw); go_simp
  simp only [Act.put, List.setIfInBounds_toArray, List.set_cons_zero, List.set_cons_succ]
  refine wpAnyH_done (by kernel_rfl) ?_ _
  exact HK.out _ _ _ _ _ _ _ _ _ _ _ _ _ _ _ _ _ _ _ _
end Wl
end Go.Proofs.YthaiibfnjgfgjaaDoor
namespace Go.Proofs.YthaiibfnjgfgjaaDoor
open Go.RowKit
namespace Wl
noncomputable def codeStep : Code := ((Tryd.f68.body.bind (regionOf 18)).getD .skip)
set_option maxRecDepth 1000000 in
set_option maxHeartbeats 8000000 in
theorem regionStep {W : World} {B wb : Nat} {pp p9 q q9 c4 : Int} (hne : B ≠ wb) (d0 : W.cell? ⟨B, 0, none⟩ = some (.pointer (some ⟨wb, 0, none⟩))) (c3 : W.cell? ⟨wb, 3, none⟩ = some (.int .i64 q)) (c4' : W.cell? ⟨wb, 4, none⟩ = some (.int .i64 c4)) (cf : ∀ i, W.frozen? ⟨wb, i, none⟩ = false) (_wl : wb < W.heap.size)
    (hp1 : pp + 1 = p9) (hp2 : IntKind.i64.wrap p9 = p9) (hq1 : q + 1 = q9) (hq2 : IntKind.i64.wrap q9 = q9)
    {r0 r2 r3 r4 r5 r7 r8 r9 r10 r11 r12 r13 r14 r15 r16 r17 r18 r19 r20 r21 r22 r23 r24 r25 r26 r27 r28 r29 r30 r31 r32 r33 r34 r35 r36 r37 r38 r39 r40 r41 r42 r43 r44 r45 r46 r47 r48 r49 r50 r51 r52 r53 r54 r55 r56 r57 r58 r59 r60 r61 r62 r63 r64 r65 r66 r67 r68 r69 r70 r71 r72 r73 r74 r75 r76 r77 r78 r79 r80 r81 r82 r83 r84 r85 r86 r87 r88 r89 r90 r91 r92 r93 r94 r95 r96 r97 r98 r99 r100 r101 r102 r103 r104 r105 r106 r107 r108 r109 r110 r111 r112 r113 r114 r115 r116 r117 r118 r119 r120 r121 r122 r123 r124 r125 r126 r127 r128 r129 r130 r131 r132 r133 r134 r135 r136 r137 r138 r139 r140 r141 r142 r143 r144 r145 r146 r147 r148 r149 r150 r151 r152 r153 r154 r155 r156 r157 r158 r159 r160 r161 r162 r163 r164 r165 r166 r167 r168 r169 r170 r171 r172 r173 r174 : Value} {K1 : Act → World → Prop}
    (hK : ∀ (v158 v159 v160 v161 v162 v163 v164 v165 v166 v167 v168 v169 v170 : Value), K1 ⟨#[r0, .pointer (some ⟨B, 0, none⟩), r2, r3, r4, r5, .int .i64 pp, r7, r8, r9, r10, r11, r12, r13, r14, r15, r16, r17, r18, r19, r20, r21, r22, r23, r24, r25, r26, r27, r28, r29, r30, r31, r32, r33, r34, r35, r36, r37, r38, r39, r40, r41, r42, r43, r44, r45, r46, r47, r48, r49, r50, r51, r52, r53, r54, r55, r56, r57, r58, r59, r60, r61, r62, r63, r64, r65, r66, r67, r68, r69, r70, r71, r72, r73, r74, r75, r76, r77, r78, r79, r80, r81, r82, r83, r84, r85, r86, r87, r88, r89, r90, r91, r92, r93, r94, r95, r96, r97, r98, r99, r100, r101, r102, r103, r104, r105, r106, r107, r108, r109, r110, r111, r112, r113, r114, r115, r116, r117, r118, r119, r120, r121, r122, r123, r124, r125, r126, r127, r128, r129, r130, r131, r132, r133, r134, r135, r136, r137, r138, r139, r140, r141, r142, r143, r144, r145, r146, r147, r148, r149, r150, r151, r152, r153, r154, r155, r156, r157, v158, v159, v160, v161, v162, v163, v164, v165, v166, v167, v168, v169, v170, r171, r172, r173, r174], []⟩ ((W.setCell ⟨wb, 4, none⟩ (.int .i64 p9)).setCell ⟨wb, 3, none⟩ (.int .i64 q9)).drew) :
    Code.wp Tryd.prog codeStep (Exit.then K1 (fun _ _ _ => False)) ⟨#[r0, .pointer (some ⟨B, 0, none⟩), r2, r3, r4, r5, .int .i64 pp, r7, r8, r9, r10, r11, r12, r13, r14, r15, r16, r17, r18, r19, r20, r21, r22, r23, r24, r25, r26, r27, r28, r29, r30, r31, r32, r33, r34, r35, r36, r37, r38, r39, r40, r41, r42, r43, r44, r45, r46, r47, r48, r49, r50, r51, r52, r53, r54, r55, r56, r57, r58, r59, r60, r61, r62, r63, r64, r65, r66, r67, r68, r69, r70, r71, r72, r73, r74, r75, r76, r77, r78, r79, r80, r81, r82, r83, r84, r85, r86, r87, r88, r89, r90, r91, r92, r93, r94, r95, r96, r97, r98, r99, r100, r101, r102, r103, r104, r105, r106, r107, r108, r109, r110, r111, r112, r113, r114, r115, r116, r117, r118, r119, r120, r121, r122, r123, r124, r125, r126, r127, r128, r129, r130, r131, r132, r133, r134, r135, r136, r137, r138, r139, r140, r141, r142, r143, r144, r145, r146, r147, r148, r149, r150, r151, r152, r153, r154, r155, r156, r157, r158, r159, r160, r161, r162, r163, r164, r165, r166, r167, r168, r169, r170, r171, r172, r173, r174], []⟩ W := by
  conv => arg 2; whnf
  have HK := Lib.hid hK
  clear hK
  refine wp_region_held_drew (S := fun w' => w'.cell? ⟨B, 0, none⟩ = some (.pointer (some ⟨wb, 0, none⟩))) (by kernel_rfl) ?_ (fun hHeld => ?_)
  · (try simp only [cell_drew]); (try simp only [cell_far _ _ _ _ _ _ hne]); (try simp only [cell_drew]); with_reducible assumption
  refine wpAnyH_take (i := 0) (oi := { dst := some 158, op := Op.load 94 (Operand.tmp 1), type := 94, pos := "wal.go:258", after := #[], guard := none }) (v := .pointer (some ⟨wb, 0, none⟩)) rfl (by kernel_rfl) (by kernel_rfl) (by kernel_rfl) (fun _ _ _ h => h) (Or.inl ⟨by rfl, ?_⟩) (by assumption) ?_
  · intro w hSw; (try dsimp only at hSw); go_simp
  simp only [Act.put, List.setIfInBounds_toArray, List.set_cons_zero, List.set_cons_succ]
  refine wpAnyH_take (i := 1) (oi := { dst := some 159, op := Op.load 94 (Operand.tmp 1), type := 94, pos := "wal.go:258", after := #[], guard := none }) (v := .pointer (some ⟨wb, 0, none⟩)) rfl (by kernel_rfl) (by kernel_rfl) (by kernel_rfl) (fun _ _ _ h => h) (Or.inl ⟨by rfl, ?_⟩) (by assumption) ?_
  · intro w hSw; (try dsimp only at hSw); go_simp
  simp only [Act.put, List.setIfInBounds_toArray, List.set_cons_zero, List.set_cons_succ]
  refine wpAnyH_take (i := 2) (oi := { dst := some 160, op := Op.move (Operand.tmp 6), type := 3, pos := "wal.go:258", after := #[], guard := none }) (v := .int .i64 pp) rfl (by kernel_rfl) (by kernel_rfl) (by kernel_rfl) (fun _ _ _ h => h) (Or.inl ⟨by rfl, ?_⟩) (by assumption) ?_
  · intro w hSw; (try dsimp only at hSw); go_simp
  simp only [Act.put, List.setIfInBounds_toArray, List.set_cons_zero, List.set_cons_succ]
  refine wpAnyH_take (i := 3) (oi := { dst := some 161, op := Op.binOp BinOp.add 3 (Operand.tmp 160) (Operand.const (Value.int IntKind.i64 1)) 3, type := 3, pos := "wal.go:258", after := #[{ on := 2, ground := Ground.data }], guard := none }) (v := .int .i64 p9) rfl (by kernel_rfl) (by kernel_rfl) (by kernel_rfl) (fun _ _ _ h => h) (Or.inl ⟨by rfl, ?_⟩) (by assumption) ?_
  · intro w hSw; (try dsimp only at hSw); go_simp
  simp only [Act.put, List.setIfInBounds_toArray, List.set_cons_zero, List.set_cons_succ]
  refine wpAnyH_take (i := 4) (oi := { dst := some 162, op := Op.load 94 (Operand.tmp 1), type := 94, pos := "wal.go:258", after := #[], guard := none }) (v := .pointer (some ⟨wb, 0, none⟩)) rfl (by kernel_rfl) (by kernel_rfl) (by kernel_rfl) (fun _ _ _ h => h) (Or.inl ⟨by rfl, ?_⟩) (by assumption) ?_
  · intro w hSw; (try dsimp only at hSw); go_simp
  simp only [Act.put, List.setIfInBounds_toArray, List.set_cons_zero, List.set_cons_succ]
  refine wpAnyH_take (i := 5) (oi := { dst := some 163, op := Op.nilCheck (Operand.tmp 162), type := 0, pos := "wal.go:258", after := #[{ on := 4, ground := Ground.data }], guard := none }) (v := .pointer (some ⟨wb, 0, none⟩)) rfl (by kernel_rfl) (by kernel_rfl) (by kernel_rfl) (fun _ _ _ h => h) (Or.inl ⟨by rfl, ?_⟩) (by assumption) ?_
  · intro w hSw; (try dsimp only at hSw); go_simp
  simp only [Act.put, List.setIfInBounds_toArray, List.set_cons_zero, List.set_cons_succ]
  refine wpAnyH_take (i := 6) (oi := { dst := some 164, op := Op.fieldAddr 96 (Operand.tmp 163) 3, type := 0, pos := "wal.go:258", after := #[{ on := 5, ground := Ground.data }], guard := none }) (v := .pointer (some ⟨wb, 3, none⟩)) rfl (by kernel_rfl) (by kernel_rfl) (by kernel_rfl) (fun _ _ _ h => h) (Or.inl ⟨by rfl, ?_⟩) (by assumption) ?_
  · intro w hSw; (try dsimp only at hSw); go_simp
  simp only [Act.put, List.setIfInBounds_toArray, List.set_cons_zero, List.set_cons_succ]
  refine wpAnyH_ready (rs := [7]) (by kernel_rfl) (by simp) ?_
  refine AllReadyH.cons (o := { dst := some 165, op := Op.load 3 (Operand.tmp 164), type := 3, pos := "wal.go:258", after := #[{ on := 6, ground := Ground.data }], guard := none }) rfl (fun K hK => ?_) AllReadyH.nil
  go_simp
  refine hK.out _ _ ?_ (fun hHeld => ?_)
  · (try simp only [cell_drew]); (try simp only [cell_far _ _ _ _ _ _ hne]); (try simp only [cell_drew]); with_reducible assumption
  clear hK K
  try simp only [Act.put, List.setIfInBounds_toArray, List.set_cons_zero, List.set_cons_succ]
  refine wpAnyH_take (i := 8) (oi := { dst := some 166, op := Op.binOp BinOp.add 3 (Operand.tmp 165) (Operand.const (Value.int IntKind.i64 1)) 3, type := 3, pos := "wal.go:258", after := #[{ on := 7, ground := Ground.data }], guard := none }) (v := .int .i64 q9) rfl (by kernel_rfl) (by kernel_rfl) (by kernel_rfl) (fun _ _ _ h => h) (Or.inl ⟨by rfl, ?_⟩) (by assumption) ?_
  · intro w hSw; (try dsimp only at hSw); go_simp
  simp only [Act.put, List.setIfInBounds_toArray, List.set_cons_zero, List.set_cons_succ]
  refine wpAnyH_take (i := 9) (oi := { dst := some 167, op := Op.nilCheck (Operand.tmp 158), type := 0, pos := "wal.go:258", after := #[{ on := 0, ground := Ground.data }, { on := 0, ground := Ground.phase }, { on := 1, ground := Ground.textOnly Departure.inlinedCapture }, { on := 2, ground := Ground.phase }, { on := 3, ground := Ground.phase }, { on := 4, ground := Ground.textOnly Departure.inlinedCapture }, { on := 5, ground := Ground.textOnly Departure.lateStoresUnsure }, { on := 6, ground := Ground.textOnly Departure.lateStoresUnsure }, { on := 7, ground := Ground.phase }, { on := 8, ground := Ground.textOnly Departure.lateStoresUnsure }], guard := none }) (v := .pointer (some ⟨wb, 0, none⟩)) rfl (by kernel_rfl) (by kernel_rfl) (by kernel_rfl) (fun _ _ _ h => h) (Or.inl ⟨by rfl, ?_⟩) (by assumption) ?_
  · intro w hSw; (try dsimp only at hSw); go_simp
  simp only [Act.put, List.setIfInBounds_toArray, List.set_cons_zero, List.set_cons_succ]
  refine wpAnyH_take (i := 10) (oi := { dst := some 168, op := Op.fieldAddr 96 (Operand.tmp 167) 4, type := 0, pos := "wal.go:258", after := #[{ on := 9, ground := Ground.data }, { on := 0, ground := Ground.phase }, { on := 1, ground := Ground.textOnly Departure.inlinedCapture }, { on := 2, ground := Ground.phase }, { on := 3, ground := Ground.phase }, { on := 4, ground := Ground.textOnly Departure.inlinedCapture }, { on := 5, ground := Ground.textOnly Departure.lateStoresUnsure }, { on := 6, ground := Ground.textOnly Departure.lateStoresUnsure }, { on := 7, ground := Ground.phase }, { on := 8, ground := Ground.textOnly Departure.lateStoresUnsure }], guard := none }) (v := .pointer (some ⟨wb, 4, none⟩)) rfl (by kernel_rfl) (by kernel_rfl) (by kernel_rfl) (fun _ _ _ h => h) (Or.inl ⟨by rfl, ?_⟩) (by assumption) ?_
  · intro w hSw; (try dsimp only at hSw); go_simp
  simp only [Act.put, List.setIfInBounds_toArray, List.set_cons_zero, List.set_cons_succ]
  refine wpAnyH_ready (rs := [11]) (by kernel_rfl) (by simp) ?_
  refine AllReadyH.cons (o := { dst := none, op := Op.store 3 (Operand.tmp 168) (Operand.tmp 161), type := 0, pos := "wal.go:258", after := #[{ on := 10, ground := Ground.data }, { on := 3, ground := Ground.data }, { on := 0, ground := Ground.phase }, { on := 1, ground := Ground.textOnly Departure.inlinedCapture }, { on := 2, ground := Ground.phase }, { on := 3, ground := Ground.phase }, { on := 4, ground := Ground.textOnly Departure.inlinedCapture }, { on := 5, ground := Ground.textOnly Departure.lateStoresUnsure }, { on := 6, ground := Ground.textOnly Departure.lateStoresUnsure }, { on := 7, ground := Ground.phase }, { on := 8, ground := Ground.textOnly Departure.lateStoresUnsure }], guard := none }) rfl (fun K hK => ?_) AllReadyH.nil
  go_simp
  refine hK.out _ _ ?_ (fun hHeld => ?_)
  · (try simp only [cell_drew]); (try simp only [cell_far _ _ _ _ _ _ hne]); (try simp only [cell_drew]); with_reducible assumption
  clear hK K
  try simp only [Act.put, List.setIfInBounds_toArray, List.set_cons_zero, List.set_cons_succ]
  refine wpAnyH_take (i := 12) (oi := { dst := some 169, op := Op.nilCheck (Operand.tmp 159), type := 0, pos := "wal.go:258", after := #[{ on := 1, ground := Ground.data }, { on := 0, ground := Ground.phase }, { on := 1, ground := Ground.phase }, { on := 2, ground := Ground.phase }, { on := 3, ground := Ground.phase }, { on := 4, ground := Ground.phase }, { on := 5, ground := Ground.phase }, { on := 6, ground := Ground.phase }, { on := 7, ground := Ground.phase }, { on := 8, ground := Ground.phase }, { on := 9, ground := Ground.phase }, { on := 10, ground := Ground.phase }, { on := 11, ground := Ground.phase }], guard := none }) (v := .pointer (some ⟨wb, 0, none⟩)) rfl (by kernel_rfl) (by kernel_rfl) (by kernel_rfl) (fun _ _ _ h => h) (Or.inl ⟨by rfl, ?_⟩) (by assumption) ?_
  · intro w hSw; (try dsimp only at hSw); go_simp
  simp only [Act.put, List.setIfInBounds_toArray, List.set_cons_zero, List.set_cons_succ]
  refine wpAnyH_take (i := 13) (oi := { dst := some 170, op := Op.fieldAddr 96 (Operand.tmp 169) 3, type := 0, pos := "wal.go:258", after := #[{ on := 12, ground := Ground.data }, { on := 0, ground := Ground.phase }, { on := 1, ground := Ground.phase }, { on := 2, ground := Ground.phase }, { on := 3, ground := Ground.phase }, { on := 4, ground := Ground.phase }, { on := 5, ground := Ground.phase }, { on := 6, ground := Ground.phase }, { on := 7, ground := Ground.phase }, { on := 8, ground := Ground.phase }, { on := 9, ground := Ground.phase }, { on := 10, ground := Ground.phase }, { on := 11, ground := Ground.phase }], guard := none }) (v := .pointer (some ⟨wb, 3, none⟩)) rfl (by kernel_rfl) (by kernel_rfl) (by kernel_rfl) (fun _ _ _ h => h) (Or.inl ⟨by rfl, ?_⟩) (by assumption) ?_
  · intro w hSw; (try dsimp only at hSw); go_simp
  simp only [Act.put, List.setIfInBounds_toArray, List.set_cons_zero, List.set_cons_succ]
  refine wpAnyH_ready (rs := [14]) (by kernel_rfl) (by simp) ?_
  refine AllReadyH.cons (o := { dst := none, op := Op.store 3 (Operand.tmp 170) (Operand.tmp 166), type := 0, pos := "wal.go:258", after := #[{ on := 13, ground := Ground.data }, { on := 8, ground := Ground.data }, { on := 11, ground := Ground.chain }, { on := 0, ground := Ground.phase }, { on := 1, ground := Ground.phase }, { on := 2, ground := Ground.phase }, { on := 3, ground := Ground.phase }, { on := 4, ground := Ground.phase }, { on := 5, ground := Ground.phase }, { on := 6, ground := Ground.phase }, { on := 7, ground := Ground.phase }, { on := 8, ground := Ground.phase }, { on := 9, ground := Ground.phase }, { on := 10, ground := Ground.phase }, { on := 11, ground := Ground.phase }], guard := none }) rfl (fun K hK => ?_) AllReadyH.nil
  go_simp
  refine hK.out _ _ ?_ (fun hHeld => ?_)
  · (try simp only [cell_drew]); (try simp only [cell_far _ _ _ _ _ _ hne]); (try simp only [cell_drew]); with_reducible assumption
  clear hK K
  try simp only [Act.put, List.setIfInBounds_toArray, List.set_cons_zero, List.set_cons_succ]
  refine wpAnyH_done (by kernel_rfl) ?_ _
  exact HK.out _ _ _ _ _ _ _ _ _ _ _ _ _
end Wl
end Go.Proofs.YthaiibfnjgfgjaaDoor
namespace Go.Proofs.YthaiibfnjgfgjaaDoor
open Go.RowKit
namespace Wl
noncomputable def codeLast : Code := ((Tryd.f68.body.bind (regionOf 17)).getD .skip)
set_option maxRecDepth 1000000 in
set_option maxHeartbeats 8000000 in
theorem regionLast {W : World} {nn : Int} {av g3 : Option Addr} {k cv l3 e3 : Nat} {p3 q5 : By} {Pst : Nat → World → Prop} (hz1 : (1 : Int) < nn) (hS0 : (convert 29 9 (.slice g3 l3 e3)).run Tryd.prog W.drew = .ok (.string (str p3)) W.drew)
    (hcall : Calls Tryd.prog 44 #[.slice av k cv] W.drew (fun e W2 => ∃ g5, e = .returned (.slice (some ⟨g5, 0, none⟩) 10 10) ∧ Pst g5 W2))
    (hpst : ∀ g5 W2, Pst g5 W2 → (convert 29 9 (.slice g3 l3 e3)).run Tryd.prog W2 = .ok (.string (str p3)) W2 ∧ (convert 29 9 (.slice (some ⟨g5, 0, none⟩) 10 10)).run Tryd.prog W2 = .ok (.string (str q5)) W2)
    {r0 r1 r2 r5 r6 r7 r8 r9 r10 r11 r12 r15 r16 r17 r18 r19 r20 r21 r22 r23 r24 r25 r26 r27 r28 r29 r30 r31 r32 r33 r34 r35 r36 r37 r38 r39 r40 r41 r42 r43 r44 r45 r46 r47 r48 r49 r50 r51 r52 r53 r54 r55 r56 r57 r58 r59 r60 r61 r62 r63 r64 r65 r66 r67 r68 r69 r70 r71 r72 r73 r74 r75 r76 r77 r78 r79 r80 r81 r82 r83 r84 r85 r86 r87 r88 r89 r90 r91 r92 r93 r94 r95 r96 r97 r98 r99 r100 r101 r102 r103 r104 r105 r106 r107 r108 r109 r110 r111 r112 r113 r114 r115 r116 r117 r118 r119 r120 r121 r122 r123 r124 r125 r126 r127 r128 r129 r130 r131 r132 r133 r134 r135 r136 r137 r138 r139 r140 r141 r142 r143 r144 r145 r146 r147 r148 r149 r150 r151 r152 r153 r154 r155 r156 r157 r158 r159 r160 r161 r162 r163 r164 r165 r166 r167 r168 r169 r170 r171 r172 r173 r174 : Value} {K1 : Act → World → Prop}
    (hK : ∀ g5 W2, Pst g5 W2 → ∀ (v145 v146 v147 v148 v149 v150 v151 v152 v153 v154 v155 v156 v157 : Value), K1 ⟨#[r0, r1, r2, .slice av k cv, .int .i64 nn, r5, r6, r7, r8, r9, r10, r11, r12, .slice g3 l3 e3, .bool true, r15, r16, r17, r18, r19, r20, r21, r22, r23, r24, r25, r26, r27, r28, r29, r30, r31, r32, r33, r34, r35, r36, r37, r38, r39, r40, r41, r42, r43, r44, r45, r46, r47, r48, r49, r50, r51, r52, r53, r54, r55, r56, r57, r58, r59, r60, r61, r62, r63, r64, r65, r66, r67, r68, r69, r70, r71, r72, r73, r74, r75, r76, r77, r78, r79, r80, r81, r82, r83, r84, r85, r86, r87, r88, r89, r90, r91, r92, r93, r94, r95, r96, r97, r98, r99, r100, r101, r102, r103, r104, r105, r106, r107, r108, r109, r110, r111, r112, r113, r114, r115, r116, r117, r118, r119, r120, r121, r122, r123, r124, r125, r126, r127, r128, r129, r130, r131, r132, r133, r134, r135, r136, r137, r138, r139, r140, r141, r142, r143, .bool (p3 == q5), v145, v146, v147, v148, v149, v150, v151, v152, v153, v154, v155, v156, v157, r158, r159, r160, r161, r162, r163, r164, r165, r166, r167, r168, r169, r170, r171, r172, r173, r174], []⟩ W2) :
    Code.wp Tryd.prog codeLast (Exit.then K1 (fun _ _ _ => False)) ⟨#[r0, r1, r2, .slice av k cv, .int .i64 nn, r5, r6, r7, r8, r9, r10, r11, r12, .slice g3 l3 e3, .bool true, r15, r16, r17, r18, r19, r20, r21, r22, r23, r24, r25, r26, r27, r28, r29, r30, r31, r32, r33, r34, r35, r36, r37, r38, r39, r40, r41, r42, r43, r44, r45, r46, r47, r48, r49, r50, r51, r52, r53, r54, r55, r56, r57, r58, r59, r60, r61, r62, r63, r64, r65, r66, r67, r68, r69, r70, r71, r72, r73, r74, r75, r76, r77, r78, r79, r80, r81, r82, r83, r84, r85, r86, r87, r88, r89, r90, r91, r92, r93, r94, r95, r96, r97, r98, r99, r100, r101, r102, r103, r104, r105, r106, r107, r108, r109, r110, r111, r112, r113, r114, r115, r116, r117, r118, r119, r120, r121, r122, r123, r124, r125, r126, r127, r128, r129, r130, r131, r132, r133, r134, r135, r136, r137, r138, r139, r140, r141, r142, r143, r144, r145, r146, r147, r148, r149, r150, r151, r152, r153, r154, r155, r156, r157, r158, r159, r160, r161, r162, r163, r164, r165, r166, r167, r168, r169, r170, r171, r172, r173, r174], []⟩ W := by
  conv => arg 2; whnf
  have HK := Lib.hid hK
  have HC := Lib.hid hcall
  have HP := Lib.hid hpst
  clear hK hcall hpst
  refine wp_region_held_drew (S := fun w' => (convert 29 9 (.slice g3 l3 e3)).run Tryd.prog w' = .ok (.string (str p3)) w') (by kernel_rfl) ?_ (fun hHeld => ?_)
  · exact hS0
  clear hS0
  refine wpAnyH_take (i := 0) (oi := { dst := some 145, op := Op.move (Operand.tmp 14), type := 4, pos := "wal.go:254", after := #[], guard := none }) (v := .bool true) rfl (by kernel_rfl) (by kernel_rfl) (by kernel_rfl) (fun _ _ _ h => h) (Or.inl ⟨by rfl, ?_⟩) (by assumption) ?_
  · intro w hSw; (try dsimp only at hSw); go_simp
  simp only [Act.put, List.setIfInBounds_toArray, List.set_cons_zero, List.set_cons_succ]
  refine wpAnyH_take (i := 1) (oi := { dst := some 146, op := Op.move (Operand.tmp 145), type := 4, pos := "wal.go:254", after := #[{ on := 0, ground := Ground.data }], guard := none }) (v := .bool true) rfl (by kernel_rfl) (by kernel_rfl) (by kernel_rfl) (fun _ _ _ h => h) (Or.inl ⟨by rfl, ?_⟩) (by assumption) ?_
  · intro w hSw; (try dsimp only at hSw); go_simp
  simp only [Act.put, List.setIfInBounds_toArray, List.set_cons_zero, List.set_cons_succ]
  refine wpAnyH_take (i := 2) (oi := { dst := some 147, op := Op.move (Operand.tmp 4), type := 3, pos := "wal.go:254", after := #[{ on := 1, ground := Ground.guard }], guard := some (1, true) }) (v := .int .i64 nn) rfl (by kernel_rfl) (by kernel_rfl) (by kernel_rfl) (fun _ _ _ h => h) (Or.inl ⟨by rfl, ?_⟩) (by assumption) ?_
  · intro w hSw; (try dsimp only at hSw); go_simp
  simp only [Act.put, List.setIfInBounds_toArray, List.set_cons_zero, List.set_cons_succ]
  refine wpAnyH_take (i := 3) (oi := { dst := some 148, op := Op.binOp BinOp.gtr 3 (Operand.tmp 147) (Operand.const (Value.int IntKind.i64 1)) 3, type := 4, pos := "wal.go:254", after := #[{ on := 2, ground := Ground.data }, { on := 1, ground := Ground.guard }], guard := some (1, true) }) (v := .bool true) rfl (by kernel_rfl) (by kernel_rfl) (by kernel_rfl) (fun _ _ _ h => h) (Or.inl ⟨by rfl, ?_⟩) (by assumption) ?_
  · intro w hSw; (try dsimp only at hSw); go_simp
  simp only [Act.put, List.setIfInBounds_toArray, List.set_cons_zero, List.set_cons_succ]
  refine wpAnyH_take (i := 4) (oi := { dst := some 149, op := Op.pick (Operand.tmp 146) (Operand.tmp 148) (Operand.const (Value.bool false)), type := 4, pos := "wal.go:254", after := #[{ on := 1, ground := Ground.data }, { on := 3, ground := Ground.data }], guard := none }) (v := .bool true) rfl (by kernel_rfl) (by kernel_rfl) (by kernel_rfl) (fun _ _ _ h => h) (Or.inl ⟨by rfl, ?_⟩) (by assumption) ?_
  · intro w hSw; (try dsimp only at hSw); go_simp
  simp only [Act.put, List.setIfInBounds_toArray, List.set_cons_zero, List.set_cons_succ]
  refine wpAnyH_take (i := 5) (oi := { dst := some 150, op := Op.move (Operand.tmp 149), type := 4, pos := "wal.go:254", after := #[{ on := 4, ground := Ground.data }, { on := 1, ground := Ground.chain }], guard := none }) (v := .bool true) rfl (by kernel_rfl) (by kernel_rfl) (by kernel_rfl) (fun _ _ _ h => h) (Or.inl ⟨by rfl, ?_⟩) (by assumption) ?_
  · intro w hSw; (try dsimp only at hSw); go_simp
  simp only [Act.put, List.setIfInBounds_toArray, List.set_cons_zero, List.set_cons_succ]
  refine wpAnyH_take (i := 6) (oi := { dst := some 151, op := Op.move (Operand.tmp 13), type := 29, pos := "wal.go:254", after := #[{ on := 5, ground := Ground.guard }], guard := some (5, true) }) (v := .slice g3 l3 e3) rfl (by kernel_rfl) (by kernel_rfl) (by kernel_rfl) (fun _ _ _ h => h) (Or.inl ⟨by rfl, ?_⟩) (by assumption) ?_
  · intro w hSw; (try dsimp only at hSw); go_simp
  simp only [Act.put, List.setIfInBounds_toArray, List.set_cons_zero, List.set_cons_succ]
  refine wpAnyH_take (i := 7) (oi := { dst := some 152, op := Op.convert 29 9 (Operand.tmp 151), type := 9, pos := "wal.go:254", after := #[{ on := 6, ground := Ground.data }, { on := 5, ground := Ground.guard }], guard := some (5, true) }) (v := .string (str p3)) rfl (by kernel_rfl) (by kernel_rfl) (by kernel_rfl) (fun _ _ _ h => h) (Or.inl ⟨by rfl, ?_⟩) (by assumption) ?_
  · intro w hSw; (try dsimp only at hSw); go_simp
  simp only [Act.put, List.setIfInBounds_toArray, List.set_cons_zero, List.set_cons_succ]
  refine wpAnyH_take (i := 8) (oi := { dst := some 153, op := Op.move (Operand.tmp 3), type := 29, pos := "wal.go:254", after := #[{ on := 5, ground := Ground.guard }], guard := some (5, true) }) (v := .slice av k cv) rfl (by kernel_rfl) (by kernel_rfl) (by kernel_rfl) (fun _ _ _ h => h) (Or.inl ⟨by rfl, ?_⟩) (by assumption) ?_
  · intro w hSw; (try dsimp only at hSw); go_simp
  simp only [Act.put, List.setIfInBounds_toArray, List.set_cons_zero, List.set_cons_succ]
  refine wpAnyH_ready (rs := [9]) (by kernel_rfl) (by simp) ?_
  refine AllReadyH.cons (o := { dst := some 154, op := Op.call { callee := Callee.value (Operand.func 44), args := #[Operand.tmp 153], argTypes := #[29] }, type := 29, pos := "wal.go:254", after := #[{ on := 8, ground := Ground.data }, { on := 5, ground := Ground.chain }, { on := 5, ground := Ground.guard }], guard := some (5, true) }) rfl (fun K hK => ?_) AllReadyH.nil
  go_wp2_with fail
  refine HC.out.mono ?_
  rintro e W2 ⟨g5, rfl, h5⟩
  have H5 := Lib.hid h5
  obtain ⟨k1, k2⟩ := HP.out g5 W2 h5
  clear h5 hHeld
  go_wp2_with fail
  refine hK.out _ _ ?_ (fun hHeld => ?_)
  · exact k1
  clear hK K k1
  try simp only [Act.put, List.setIfInBounds_toArray, List.set_cons_zero, List.set_cons_succ]
  refine wpAnyH_ready (rs := [10]) (by kernel_rfl) (by simp) ?_
  refine AllReadyH.cons (o := { dst := some 155, op := Op.convert 29 9 (Operand.tmp 154), type := 9, pos := "wal.go:254", after := #[{ on := 9, ground := Ground.data }, { on := 5, ground := Ground.guard }], guard := some (5, true) }) rfl (fun K hK => ?_) AllReadyH.nil
  go_simp
  refine hK.out _ _ ?_ (fun hHeld => ?_)
  · exact (HP.out g5 W2 H5.out).1
  clear hK K
  try simp only [Act.put, List.setIfInBounds_toArray, List.set_cons_zero, List.set_cons_succ]
  refine wpAnyH_take (i := 11) (oi := { dst := some 156, op := Op.binOp BinOp.eql 9 (Operand.tmp 152) (Operand.tmp 155) 9, type := 4, pos := "wal.go:254", after := #[{ on := 7, ground := Ground.data }, { on := 10, ground := Ground.data }, { on := 5, ground := Ground.guard }], guard := some (5, true) }) (v := .bool (p3 == q5)) rfl (by kernel_rfl) (by kernel_rfl) (by kernel_rfl) (fun _ _ _ h => h) (Or.inl ⟨by rfl, ?_⟩) (by assumption) ?_
  · intro w hSw; (try dsimp only at hSw); go_simp
  simp only [Act.put, List.setIfInBounds_toArray, List.set_cons_zero, List.set_cons_succ]
  refine wpAnyH_take (i := 12) (oi := { dst := some 157, op := Op.pick (Operand.tmp 150) (Operand.tmp 156) (Operand.const (Value.bool false)), type := 4, pos := "wal.go:254", after := #[{ on := 5, ground := Ground.data }, { on := 11, ground := Ground.data }], guard := none }) (v := .bool (p3 == q5)) rfl (by kernel_rfl) (by kernel_rfl) (by kernel_rfl) (fun _ _ _ h => h) (Or.inl ⟨by rfl, ?_⟩) (by assumption) ?_
  · intro w hSw; (try dsimp only at hSw); go_simp
  simp only [Act.put, List.setIfInBounds_toArray, List.set_cons_zero, List.set_cons_succ]
  refine wpAnyH_take (i := 13) (oi := { dst := some 144, op := Op.assign (Operand.tmp 157), type := 4, pos := "wal.go:254", after := #[{ on := 12, ground := Ground.data }, { on := 9, ground := Ground.chain }], guard := none }) (v := .bool (p3 == q5)) rfl (by kernel_rfl) (by kernel_rfl) (by kernel_rfl) (fun _ _ _ h => h) (Or.inl ⟨by rfl, ?_⟩) (by assumption) ?_
  · intro w hSw; (try dsimp only at hSw); go_simp
  simp only [Act.put, List.setIfInBounds_toArray, List.set_cons_zero, List.set_cons_succ]
  refine wpAnyH_done (by kernel_rfl) ?_ _
  exact HK.out g5 W2 H5.out _ _ _ _ _ _ _ _ _ _ _ _ _
end Wl
end Go.Proofs.YthaiibfnjgfgjaaDoor
namespace Go.Proofs.YthaiibfnjgfgjaaDoor
open Go.RowKit
namespace Wl
theorem readerErr {w : World} {p g : Nat} {l : List (BitVec 8)} {k : Nat} {e : Int} (h : Rdr w p g l k e) :
   Calls Tryd.prog 79 #[.pointer (some ⟨p, 0, none⟩)] w fun x w' => x = .returned (.tuple #[.int .i64 e, .int .i64 k]) ∧ Still w w' := by
  have h1 := h.c1
  have h2 := h.c2
  clear h
  go_enter Tryd.func79, Tryd.ntmps79
  go_wp2_with fail
  go_quiet (fail)
  go_wp2
  go_ret2
  exact ⟨rfl, (Still.refl w).drewN _⟩
theorem readerLeft0 {w : World} {p g : Nat} {l : List (BitVec 8)} {k : Nat} (h : Rdr w p g l k 0) (hl : l.length ≤ 140737488351232) :
   Calls Tryd.prog 80 #[.pointer (some ⟨p, 0, none⟩)] w fun x w' => x = .returned (.int .i64 ((l.length : Int) - (k : Int))) ∧ Still w w' := by
  have h0 := h.c0
  have h1 := h.c1
  have h2 := h.c2
  have hk := h.le
  clear h
  go_enter Tryd.func80, Tryd.ntmps80
  go_wp2_with fail
  go_quiet (fail)
  go_wp2
  go_ret
  exact ⟨rfl, (Still.refl w).drewN _⟩
/-- One number more is read, or the reader is broken. -/
def Adv (l : By) (k : Nat) (e : Int) (v : BitVec 32) (k' : Nat) (e' : Int) : Prop := (e = 0 ∧ k + 4 ≤ l.length → v = (n4 l k).setWidth 32 ∧ k' = k + 4 ∧ e' = 0) ∧ (¬ (e = 0 ∧ k + 4 ≤ l.length) → e' ≠ 0)
theorem get32 {w : World} {p g : Nat} {l : By} {k : Nat} {e : Int} (h : Rdr w p g l k e) (hl : l.length ≤ 140737488351232) :
   Calls Tryd.prog 78 #[.pointer (some ⟨p, 0, none⟩)] w fun x w' => ∃ v k' e', x = .returned (.int .u32 (n32 v)) ∧ Rdr w' p g l k' e' ∧ Adv l k e v k' e' ∧ Only (fun j => j = p) w w' ∧ w.heap.size ≤ w'.heap.size ∧ ∀ (b : Nat) (cs : Array Value) (t : TypeId), b ≠ p → w.heap[b]? = some (.cells cs t (0, 0)) → w'.heap[b]? = some (.cells cs t (0, 0)) := by
  by_cases hy : e = 0 ∧ k + 4 ≤ l.length
  · obtain ⟨rfl, hk⟩ := hy
    refine (getYes32 h hl hk).mono ?_
    rintro x w' ⟨rfl, h1, h2⟩
    exact ⟨_, _, _, rfl, h1, ⟨fun _ => ⟨rfl, rfl, rfl⟩, fun h => absurd ⟨rfl, hk⟩ h⟩, h2, h2.size, fun b cs t hb hx => (h2.block b (lt_of_heap hx) hb).trans hx⟩
  · refine (getNo32 h hl hy).mono ?_
    rintro x w' ⟨rfl, h1, h2, h3⟩
    exact ⟨0#32, _, _, by rw [n32_z], h1, ⟨fun h => absurd h hy, fun _ => h2⟩, h3, h3.size, fun b cs t hb hx => (h3.block b (lt_of_heap hx) hb).trans hx⟩
theorem bodyPost_retCT {P : Program} {fn : Func} {R : Ending → World → Prop} {a : Act} {w : World} {p u : Tmp} {ty : TypeId} (h : fn.results = #[.cell p ty, .tmp u]) {g : Nat} {t : TypeId} {cs : Array Value} {fr : Nat × Nat} {d : TypeDesc}
    (hp : a.tmps.getD p undef = .pointer (some ⟨g, 0, none⟩)) (hg : w.heap[g]? = some (.cells cs t fr))
    (hu : P.underlying ty = some d) (hd : (match d with | .struct _ | .array _ _ => true | _ => false) = true) (hi : (P.info? ty).map (·.size) = some cs.size)
    (hx : a.defers = []) (hR : R (.returned (.tuple #[.agg cs, a.tmps.getD u undef])) w) : bodyPost P fn R .ret a w := by
  refine bodyPost_ret (v := .tuple #[.agg cs, a.tmps.getD u undef]) ?_ hx hR
  rw [results_cell_tmp h, hp]
  simp only [asAddr, Sem.run_pure, Result.andThen_ok]
  rw [run_loadVar_row w g t ty cs fr d hg hu hd hi]
  rfl
theorem four {l : By} {v0 v1 v2 v3 : BitVec 32} {k1 k2 k3 k4 : Nat} {e1 e2 e3 e4 : Int} (h0 : Adv l 0 0 v0 k1 e1) (h1 : Adv l k1 e1 v1 k2 e2) (h2 : Adv l k2 e2 v2 k3 e3) (h3 : Adv l k3 e3 v3 k4 e4) :
   (16 ≤ l.length → v0 = (n4 l 0).setWidth 32 ∧ v1 = (n4 l 4).setWidth 32 ∧ v2 = (n4 l 8).setWidth 32 ∧ v3 = (n4 l 12).setWidth 32 ∧ k4 = 16 ∧ e4 = 0) ∧ (l.length < 16 → e4 ≠ 0) := by
  constructor
  · intro h
    obtain ⟨a1, rfl, rfl⟩ := h0.1 ⟨rfl, by omega⟩
    obtain ⟨a2, rfl, rfl⟩ := h1.1 ⟨rfl, by omega⟩
    obtain ⟨a3, rfl, rfl⟩ := h2.1 ⟨rfl, by omega⟩
    obtain ⟨a4, rfl, rfl⟩ := h3.1 ⟨rfl, by omega⟩
    exact ⟨a1, a2, a3, a4, rfl, rfl⟩
  · intro h
    refine h3.2 fun c => ?_
    obtain ⟨c1, c2⟩ := c
    by_cases d2 : e2 = 0 ∧ k2 + 4 ≤ l.length
    · obtain ⟨_, b2, b3⟩ := h2.1 d2
      by_cases d1 : e1 = 0 ∧ k1 + 4 ≤ l.length
      · obtain ⟨_, b4, b5⟩ := h1.1 d1
        by_cases d0 : (0 : Int) = 0 ∧ 0 + 4 ≤ l.length
        · obtain ⟨_, b6, b7⟩ := h0.1 d0
          omega
        · exact h0.2 d0 d1.1
      · exact h1.2 d1 d2.1
    · exact h2.2 d2 c1
theorem n4_lt (l : By) (k : Nat) : (n4 l k).toNat < 4294967296 := by
  unfold n4
  have h := val_lt ((l.drop k).take 4) ((l.drop k).take 4).length rfl (by simp; omega)
  have h2 : ((l.drop k).take 4).length ≤ 4 := by simp; omega
  have h3 : 2 ^ (8 * ((l.drop k).take 4).length) ≤ 2 ^ (8 * 4) := Nat.pow_le_pow_right (by decide) (by omega)
  omega
theorem n32_n4 (l : By) (k : Nat) : n32 ((n4 l k).setWidth 32) = (((n4 l k).toNat : Nat) : Int) := by
  have := n4_lt l k
  unfold n32
  rw [BitVec.toNat_setWidth, Nat.mod_eq_of_lt (by omega)]
def CntR (w : World) (b : By) (i n room : Nat) (e : Ending) (w' : World) : Prop := ∃ x : Sup, e = .returned (.tuple #[x.val, .bool (countsO b i n room)]) ∧ (countsO b i n room = true → x = countsS b) ∧ Below w.heap.size w w'
/-- Behind the three Gets: the superblock in a box of its own. -/
def GetsR (w wx : World) (p g b8 b10 : Nat) (vt : By) (ve vq pa : Nat) (ag : Option Addr) (N cg : Nat) (vb : By) (v0 : BitVec 32) (pp : Value) : Prop := ∃ (b14 : Nat) (v1 v2 v3 : BitVec 32) (k4 : Nat) (e4 : Int), pp = .pointer (some ⟨b14, 0, none⟩) ∧
   Bag w wx [.box b14 #[.int .i64 (ve : Nat), .int .i64 (vq : Nat), .int .i64 (IntKind.i64.wrap (n32 v1)), .int .i64 (IntKind.i64.wrap (n32 v2)), .int .u32 (n32 v3)] 91, .rdr p g vb k4 e4, .box b10 #[.string (str vt), .int .i64 (ve : Nat), .int .i64 (vq : Nat), .int .i64 (pa : Nat), .slice ag N cg] 33, .mine 5 ag cg vb, .box b8 #[.int .i64 0, .int .i64 0, .int .i64 0, .int .i64 0, .int .u32 0] 91] ∧
   (16 ≤ vb.length → v0 = (n4 vb 0).setWidth 32 ∧ v1 = (n4 vb 4).setWidth 32 ∧ v2 = (n4 vb 8).setWidth 32 ∧ v3 = (n4 vb 12).setWidth 32 ∧ k4 = 16 ∧ e4 = 0) ∧ (vb.length < 16 → e4 ≠ 0)
def Sup.zero : Sup := ⟨0, 0, 0, 0, 0#32⟩
set_option maxRecDepth 100000 in
set_option maxHeartbeats 4000000 in
theorem wCounts (b : By) (ao : Option Addr) (cap i n room : Nat) (w : World) (hb : b.length = 512) (hc : 512 ≤ cap) (hi : i < 2) (hn : n ≤ 8192) (_hrm : room ≤ 4095) (hr : Rd w ao b) (ht : Tab w) (hT : 0 < w.heap.size) :
   Calls Tryd.prog 66 #[.slice ao 512 cap, .int .i64 (i : Nat), .int .i64 (n : Nat), .int .i64 (room : Nat)] w (CntR w b i n room) := by
  have HR := Lib.hid (fun (u : World) (hb : Below w.heap.size w u) => hr.on hb)
  have HT := Lib.hid (fun (u : World) (hb : Below w.heap.size w u) => (⟨ht.below hb hT, Nat.lt_of_lt_of_le hT hb.size⟩ : Tab u ∧ _))
  have HBL := Lib.hid hb
  obtain ⟨C, hC⟩ : ∃ C, countsO b i n room = C := ⟨_, rfl⟩
  have HC := Lib.hid hC
  clear hb hr ht hT hC
  go_enter Tryd.func66, Tryd.ntmps66
  go_wp2_with fail
  generalize hU : w.alloc (.cells #[.int .i64 0, .int .i64 0, .int .i64 0, .int .i64 0, .int .u32 0] 91 (0, 0)) = U
  generalize hb8 : w.heap.size = b8
  have HB0 := Lib.hid (show Bag w U [.box b8 #[.int .i64 0, .int .i64 0, .int .i64 0, .int .i64 0, .int .u32 0] 91] by rw [← hU]; exact (Bag.start w).allocAt _ _ b8 hb8)
  clear hU hb8
  have hgs := secGet b ao 512 cap U HBL.out hc (HR.out U HB0.out.below) (HT.out U HB0.out.below).1 (HT.out U HB0.out.below).2
  cases hg : getS b with
  | none =>
    have hz := getV_none hg
    have HC2 := Lib.hid (show C = false by rw [← HC.out]; unfold countsO; rw [hg]; rfl)
    rw [hz.1, hz.2] at hgs
    clear hg hz
    refine hgs.mono ?_
    clear hgs
    rintro e W1 ⟨ag, cg, he, Mx, hb⟩
    obtain rfl : e = .returned (.tuple #[.agg #[.string (str Sec.zero.tag), .int .i64 0, .int .i64 0, .int .i64 0, .slice ag 0 cg], .int .i64 117]) := he
    have HB1 := Lib.hid (HB0.out.call hb)
    clear HB0 Mx hb
    obtain ⟨q0, q1, q2, q3, q4, qf⟩ := cells5 (HB1.out.box 0 rfl)
    have ql := HB1.out.boxLt 0 rfl
    clear q0 q1 q2 q3 q4 qf ql
    obtain ⟨w0, w1, w2, w3, w4, wf⟩ := cells5 (HB1.out.box 0 rfl)
    have wl := HB1.out.boxLt 0 rfl
    go_wp2_with fail
    have HF := Lib.hid ((HB1.out.store 0 rfl [.int .i64 0, .int .i64 0, .int .i64 0, .int .i64 0, .int .u32 0] rfl).alloc #[.string (str Sec.zero.tag), .int .i64 0, .int .i64 0, .int .i64 0, .slice ag 0 cg] 33)
    refine bodyPost_retCT (g := b8) (cs := #[.int .i64 0, .int .i64 0, .int .i64 0, .int .i64 0, .int .u32 0]) rfl rfl (HF.out.box 1 rfl) Tryd.underlying91 rfl rfl rfl ?_
    refine ⟨Sup.zero, ?_, ?_, ?_⟩
    · rw [HC.out, HC2.out]
      show _ = Ending.returned (.tuple #[.agg #[.int .i64 0, .int .i64 0, .int .i64 0, .int .i64 0, .int .u32 (n32 0#32)], .bool false])
      rw [n32_z] <;> rfl
    · intro h
      rw [HC.out, HC2.out] at h
      cases h
    · exact HF.out.below
  | some V =>
    have hz := getV_some hg
    obtain ⟨⟨hm1, hm2⟩⟩ : Nonempty (V.may = true ∧ V.bytes = b) := ⟨getS_spec hg⟩
    obtain ⟨m1, ⟨m2, m3⟩, ⟨m4, m5⟩, ⟨m6, m7⟩, m8⟩ := may_iff.1 hm1
    have HGS := Lib.hid hg
    rw [hz.1, hz.2] at hgs
    have HGV := Lib.hid hz.1
    clear hm1 hm2 hg hz
    obtain ⟨vt, ve', vq', vp, vb⟩ := V
    obtain ⟨vq, rfl⟩ : ∃ n : Nat, vq' = (n : Int) := ⟨vq'.toNat, by simp only at m4; omega⟩
    obtain ⟨ve, rfl⟩ : ∃ n : Nat, ve' = (n : Int) := ⟨ve'.toNat, by simp only at m2; omega⟩
    obtain ⟨N, hN⟩ : ∃ N, vb.length = N := ⟨_, rfl⟩
    simp only at m1 m2 m3 m4 m5 m6 m7 m8
    rw [hN] at m8
    have HN := Lib.hid hN
    have HM := Lib.hid (And.intro m3 (And.intro m4 (And.intro m5 (And.intro m6 m7))))
    have hve : ve ≤ 4611686018427387904 := by omega
    have hem : (ve : Int).tmod 2 = (ve : Int) % 2 := Int.tmod_eq_emod_of_nonneg (by omega)
    obtain ⟨pa, hpa⟩ : ∃ pa, ve % 2 = pa := ⟨_, rfl⟩
    have hpa1 : (ve : Int) % 2 = (pa : Int) := by omega
    have HCC := Lib.hid (show C = (vt == tagS && ((vp == (i : Int)) && ((pa == i) && ((N == 16) && ((n4 vb 0).toNat == n && ((n4 vb 4).toNat == pcN (n4 vb 8).toNat && decide ((n4 vb 4).toNat + 11 ≤ room))))))) by
      rw [← HC.out]
      unfold countsO
      rw [HGS.out, HGV.out]
      simp only [Option.isSome_some, Bool.true_and]
      rw [HN.out, hpa1]
      congr 3
      rw [Bool.eq_iff_iff]; simp only [beq_iff_eq]; omega)
    refine hgs.mono ?_
    clear hgs
    rintro e W1 ⟨ag, cg, he, Mx, hb⟩
    obtain rfl : e = .returned (.tuple #[.agg #[.string (str vt), .int .i64 (ve : Nat), .int .i64 (vq : Nat), .int .i64 vp, .slice ag N cg], .int .i64 0]) := by rw [he, ← HN.out]; rfl
    have HB1 := Lib.hid (HB0.out.mine hb Mx)
    clear HB0 Mx hb m1 m2 m3 m4 m5 m6 m7 hN
    cases ht : (vt == tS) with
    | false =>
      have HC2 := Lib.hid (show C = false by rw [HCC.out, show (vt == tagS) = false from ht]; rfl)
      obtain ⟨w0, w1, w2, w3, w4, wf⟩ := cells5 (HB1.out.box 1 rfl)
      have wl := HB1.out.boxLt 1 rfl
      go_wp2_with fail
      have HF := Lib.hid ((HB1.out.store 1 rfl [.int .i64 0, .int .i64 0, .int .i64 0, .int .i64 0, .int .u32 0] rfl).alloc #[.string (str vt), .int .i64 (ve : Nat), .int .i64 (vq : Nat), .int .i64 vp, .slice ag N cg] 33)
      refine bodyPost_retCT (g := b8) (cs := #[.int .i64 0, .int .i64 0, .int .i64 0, .int .i64 0, .int .u32 0]) rfl rfl (HF.out.box 2 rfl) Tryd.underlying91 rfl rfl rfl ?_
      refine ⟨Sup.zero, ?_, ?_, ?_⟩
      · rw [HC.out, HC2.out]
        show _ = Ending.returned (.tuple #[.agg #[.int .i64 0, .int .i64 0, .int .i64 0, .int .i64 0, .int .u32 (n32 0#32)], .bool false])
        rw [n32_z] <;> rfl
      · intro h
        rw [HC.out, HC2.out] at h
        cases h
      · exact HF.out.below
    | true =>
      cases hp : (vp == (i : Int)) with
      | false =>
        have HC2 := Lib.hid (show C = false by rw [HCC.out, hp]; simp)
        obtain ⟨w0, w1, w2, w3, w4, wf⟩ := cells5 (HB1.out.box 1 rfl)
        have wl := HB1.out.boxLt 1 rfl
        go_wp2_with fail
        have HF := Lib.hid ((HB1.out.store 1 rfl [.int .i64 0, .int .i64 0, .int .i64 0, .int .i64 0, .int .u32 0] rfl).alloc #[.string (str vt), .int .i64 (ve : Nat), .int .i64 (vq : Nat), .int .i64 vp, .slice ag N cg] 33)
        refine bodyPost_retCT (g := b8) (cs := #[.int .i64 0, .int .i64 0, .int .i64 0, .int .i64 0, .int .u32 0]) rfl rfl (HF.out.box 2 rfl) Tryd.underlying91 rfl rfl rfl ?_
        refine ⟨Sup.zero, ?_, ?_, ?_⟩
        · rw [HC.out, HC2.out]
          show _ = Ending.returned (.tuple #[.agg #[.int .i64 0, .int .i64 0, .int .i64 0, .int .i64 0, .int .u32 (n32 0#32)], .bool false])
          rw [n32_z] <;> rfl
        · intro h
          rw [HC.out, HC2.out] at h
          cases h
        · exact HF.out.below
      | true =>
        obtain rfl : vp = (i : Int) := by simpa using hp
        have HP := Lib.hid hp
        clear hp
        cases hq : (pa == i) with
        | false =>
          have HC2 := Lib.hid (show C = false by rw [HCC.out, hq]; simp)
          have hq1 : ((pa : Int) == (i : Int)) = false := by simp only [beq_eq_false_iff_ne] at hq ⊢; omega
          obtain ⟨w0, w1, w2, w3, w4, wf⟩ := cells5 (HB1.out.box 1 rfl)
          have wl := HB1.out.boxLt 1 rfl
          go_wp2_with fail
          have HF := Lib.hid ((HB1.out.store 1 rfl [.int .i64 0, .int .i64 0, .int .i64 0, .int .i64 0, .int .u32 0] rfl).alloc #[.string (str vt), .int .i64 (ve : Nat), .int .i64 (vq : Nat), .int .i64 (i : Nat), .slice ag N cg] 33)
          refine bodyPost_retCT (g := b8) (cs := #[.int .i64 0, .int .i64 0, .int .i64 0, .int .i64 0, .int .u32 0]) rfl rfl (HF.out.box 2 rfl) Tryd.underlying91 rfl rfl rfl ?_
          refine ⟨Sup.zero, ?_, ?_, ?_⟩
          · rw [HC.out, HC2.out]
            show _ = Ending.returned (.tuple #[.agg #[.int .i64 0, .int .i64 0, .int .i64 0, .int .i64 0, .int .u32 (n32 0#32)], .bool false])
            rw [n32_z] <;> rfl
          · intro h
            rw [HC.out, HC2.out] at h
            cases h
          · exact HF.out.below
        | true =>
          have HC3 := Lib.hid (show C = ((N == 16) && ((n4 vb 0).toNat == n && ((n4 vb 4).toNat == pcN (n4 vb 8).toNat && decide ((n4 vb 4).toNat + 11 ≤ room)))) by rw [HCC.out, show (vt == tagS) = true from ht, HP.out, hq]; rfl)
          obtain rfl : pa = i := by simpa using hq
          clear hq HCC HP
          go_wp2_with fail
          generalize hb10 : W1.heap.size = b10
          generalize hU1 : W1.alloc (.cells #[.string (str vt), .int .i64 (ve : Nat), .int .i64 (vq : Nat), .int .i64 (pa : Nat), .slice ag N cg] 33 (0, 0)) = U1
          have HB2 := Lib.hid (show Bag w U1 [.box b10 #[.string (str vt), .int .i64 (ve : Nat), .int .i64 (vq : Nat), .int .i64 (pa : Nat), .slice ag N cg] 33, .mine 5 ag cg vb, .box b8 #[.int .i64 0, .int .i64 0, .int .i64 0, .int .i64 0, .int .u32 0] 91] by rw [← hU1]; exact HB1.out.allocAt _ _ b10 hb10)
          clear hU1 hb10 HB1
          refine (newReader' ag vb N cg U1 HN.out (by omega) (HB2.out.mineRd 1 rfl)).mono ?_
          rintro e W2 ⟨p, g, rfl, hp, hg, hr, hb⟩
          have HB3 := Lib.hid (HB2.out.rdr hb hp hg hr)
          clear hp hg hr hb HB2
          go_wp2_with fail
          refine (get32 (HB3.out.rdrAt 0 rfl) (by have := HN.out; omega)).mono ?_
          rintro e W4 ⟨v0, k1, e1, rfl, R1, A1, O1, s1, K1⟩
          have HB4 := Lib.hid (HB3.out.rdrTurn 0 rfl O1 R1)
          have HA1 := Lib.hid A1
          clear HB3 R1 O1 s1 K1 A1
          obtain ⟨_, q1, q2, _, _, qf⟩ := cells5 (HB4.out.box 1 rfl)
          have ql := HB4.out.boxLt 1 rfl
          go_wp2_with fail
          go_cut [14] from 48 to 60 (fun pp wx => GetsR w wx p g b8 b10 vt ve vq pa ag N cg vb v0 pp)
          case first =>
            go_region_held3 (fun w' => w'.cell? ⟨b10, 1, none⟩ = some (.int .i64 (ve : Nat)) ∧ w'.cell? ⟨b10, 2, none⟩ = some (.int .i64 (vq : Nat))) (((try simp only [cell_drew]); (try simp only [cell_far _ _ _ _ _ _ (Nat.ne_of_lt ql)]); (try simp only [cell_alloc_old _ _ _ _ ql]); (try simp only [cell_far _ _ _ _ _ _ (Nat.ne_of_lt ql5)]); (try simp only [cell_alloc_old _ _ _ _ ql5]); (try simp only [cell_far _ _ _ _ _ _ (Nat.ne_of_lt ql6)]); (try simp only [cell_alloc_old _ _ _ _ ql6]); (try simp only [cell_far _ _ _ _ _ _ (Nat.ne_of_lt ql7)]); (try simp only [cell_alloc_old _ _ _ _ ql7]); (try simp only [cell_drew]); (refine ⟨?_, ?_⟩ <;> with_reducible assumption))) ((first
              | (go_at_call 78
                 first
                   | (refine (get32 (HB6.out.rdrAt 0 rfl) (by have := HN.out; omega)).mono ?_
                      rintro e W7 ⟨v3, k4, e4, rfl, R4, A4, O4, s4, K4⟩
                      have HB7 := Lib.hid (HB6.out.rdrTurn 0 rfl O4 R4)
                      obtain ⟨_, q1, q2, _, _, qf⟩ := cells5 (HB7.out.box 1 rfl)
                      have ql7 := HB7.out.boxLt 1 rfl)
                   | (refine (get32 ((HB6.out.alloc #[.int .i64 0, .int .i64 0, .int .i64 0, .int .i64 0, .int .u32 0] 91).rdrAt 1 rfl) (by have := HN.out; omega)).mono ?_
                      rintro e W7 ⟨v3, k4, e4, rfl, R4, A4, O4, s4, K4⟩
                      have tg6 : True := trivial
                      have HX7 := Lib.hid ((HB6.out.alloc #[.int .i64 0, .int .i64 0, .int .i64 0, .int .i64 0, .int .u32 0] 91).rdrTurn 1 rfl O4 R4)
                      obtain ⟨z0, z1, z2, z3, z4, zf⟩ := cells5 (HX7.out.box 0 rfl)
                      have zl := HX7.out.boxLt 0 rfl
                      obtain ⟨_, q1, q2, _, _, qf⟩ := cells5 (HX7.out.box 2 rfl)
                      have ql7 := HX7.out.boxLt 2 rfl)
                   | (refine (get32 (HX6.out.rdrAt 1 rfl) (by have := HN.out; omega)).mono ?_
                      rintro e W7 ⟨v3, k4, e4, rfl, R4, A4, O4, s4, K4⟩
                      have HX7 := Lib.hid (HX6.out.rdrTurn 1 rfl O4 R4)
                      obtain ⟨z0, z1, z2, z3, z4, zf⟩ := cells5 (HX7.out.box 0 rfl)
                      have zl := HX7.out.boxLt 0 rfl
                      obtain ⟨_, q1, q2, _, _, qf⟩ := cells5 (HX7.out.box 2 rfl)
                      have ql7 := HX7.out.boxLt 2 rfl))
              | (go_at_call 78
                 first
                   | (refine (get32 (HB5.out.rdrAt 0 rfl) (by have := HN.out; omega)).mono ?_
                      rintro e W6 ⟨v2, k3, e3, rfl, R3, A3, O3, s3, K3⟩
                      have HB6 := Lib.hid (HB5.out.rdrTurn 0 rfl O3 R3)
                      obtain ⟨_, q1, q2, _, _, qf⟩ := cells5 (HB6.out.box 1 rfl)
                      have ql6 := HB6.out.boxLt 1 rfl)
                   | (refine (get32 ((HB5.out.alloc #[.int .i64 0, .int .i64 0, .int .i64 0, .int .i64 0, .int .u32 0] 91).rdrAt 1 rfl) (by have := HN.out; omega)).mono ?_
                      rintro e W6 ⟨v2, k3, e3, rfl, R3, A3, O3, s3, K3⟩
                      have tg5 : True := trivial
                      have HX6 := Lib.hid ((HB5.out.alloc #[.int .i64 0, .int .i64 0, .int .i64 0, .int .i64 0, .int .u32 0] 91).rdrTurn 1 rfl O3 R3)
                      obtain ⟨z0, z1, z2, z3, z4, zf⟩ := cells5 (HX6.out.box 0 rfl)
                      have zl := HX6.out.boxLt 0 rfl
                      obtain ⟨_, q1, q2, _, _, qf⟩ := cells5 (HX6.out.box 2 rfl)
                      have ql6 := HX6.out.boxLt 2 rfl)
                   | (refine (get32 (HX5.out.rdrAt 1 rfl) (by have := HN.out; omega)).mono ?_
                      rintro e W6 ⟨v2, k3, e3, rfl, R3, A3, O3, s3, K3⟩
                      have HX6 := Lib.hid (HX5.out.rdrTurn 1 rfl O3 R3)
                      obtain ⟨z0, z1, z2, z3, z4, zf⟩ := cells5 (HX6.out.box 0 rfl)
                      have zl := HX6.out.boxLt 0 rfl
                      obtain ⟨_, q1, q2, _, _, qf⟩ := cells5 (HX6.out.box 2 rfl)
                      have ql6 := HX6.out.boxLt 2 rfl))
              | (go_at_call 78
                 first
                   | (refine (get32 (HB4.out.drew.rdrAt 0 rfl) (by have := HN.out; omega)).mono ?_
                      rintro e W5 ⟨v1, k2, e2, rfl, R2, A2, O2, s2, K2⟩
                      have HB5 := Lib.hid (HB4.out.drew.rdrTurn 0 rfl O2 R2)
                      obtain ⟨_, q1, q2, _, _, qf⟩ := cells5 (HB5.out.box 1 rfl)
                      have ql5 := HB5.out.boxLt 1 rfl)
                   | (refine (get32 ((HB4.out.alloc #[.int .i64 0, .int .i64 0, .int .i64 0, .int .i64 0, .int .u32 0] 91).drew.rdrAt 1 rfl) (by have := HN.out; omega)).mono ?_
                      rintro e W5 ⟨v1, k2, e2, rfl, R2, A2, O2, s2, K2⟩
                      have tg4 : True := trivial
                      have HX5 := Lib.hid ((HB4.out.alloc #[.int .i64 0, .int .i64 0, .int .i64 0, .int .i64 0, .int .u32 0] 91).drew.rdrTurn 1 rfl O2 R2)
                      obtain ⟨z0, z1, z2, z3, z4, zf⟩ := cells5 (HX5.out.box 0 rfl)
                      have zl := HX5.out.boxLt 0 rfl
                      obtain ⟨_, q1, q2, _, _, qf⟩ := cells5 (HX5.out.box 2 rfl)
                      have ql5 := HX5.out.boxLt 2 rfl))))
            all_goals
              first
                | (generalize hb14 : W7.heap.size = b14
                   generalize hU8 : W7.alloc (.cells #[.int .i64 (ve : Nat), .int .i64 (vq : Nat), .int .i64 (IntKind.i64.wrap (n32 v1)), .int .i64 (IntKind.i64.wrap (n32 v2)), .int .u32 (n32 v3)] 91 (0, 0)) = U8
                   have HB8 := Lib.hid (show Bag w U8 [.box b14 #[.int .i64 (ve : Nat), .int .i64 (vq : Nat), .int .i64 (IntKind.i64.wrap (n32 v1)), .int .i64 (IntKind.i64.wrap (n32 v2)), .int .u32 (n32 v3)] 91, .rdr p g vb k4 e4, .box b10 #[.string (str vt), .int .i64 (ve : Nat), .int .i64 (vq : Nat), .int .i64 (pa : Nat), .slice ag N cg] 33, .mine 5 ag cg vb, .box b8 #[.int .i64 0, .int .i64 0, .int .i64 0, .int .i64 0, .int .u32 0] 91] by rw [← hU8]; exact HB7.out.allocAt _ _ b14 hb14)
                   clear hb14 HB7)
                | (have _ := tg6
                   generalize hU8 : (((((W7.setCell ⟨W6.heap.size, 0, none⟩ (.int .i64 (ve : Nat))).setCell ⟨W6.heap.size, 1, none⟩ (.int .i64 (vq : Nat))).setCell ⟨W6.heap.size, 2, none⟩ (.int .i64 (IntKind.i64.wrap (n32 v1)))).setCell ⟨W6.heap.size, 3, none⟩ (.int .i64 (IntKind.i64.wrap (n32 v2)))).setCell ⟨W6.heap.size, 4, none⟩ (.int .u32 (n32 v3))) = U8
                   have HB8 := Lib.hid (show Bag w U8 [.box W6.heap.size #[.int .i64 (ve : Nat), .int .i64 (vq : Nat), .int .i64 (IntKind.i64.wrap (n32 v1)), .int .i64 (IntKind.i64.wrap (n32 v2)), .int .u32 (n32 v3)] 91, .rdr p g vb k4 e4, .box b10 #[.string (str vt), .int .i64 (ve : Nat), .int .i64 (vq : Nat), .int .i64 (pa : Nat), .slice ag N cg] 33, .mine 5 ag cg vb, .box b8 #[.int .i64 0, .int .i64 0, .int .i64 0, .int .i64 0, .int .u32 0] 91] by rw [← hU8]; exact HX7.out.store 0 rfl [.int .i64 (ve : Nat), .int .i64 (vq : Nat), .int .i64 (IntKind.i64.wrap (n32 v1)), .int .i64 (IntKind.i64.wrap (n32 v2)), .int .u32 (n32 v3)] rfl)
                   generalize W6.heap.size = b14 at HB8 ⊢
                   clear HX7)
                | (have _ := tg5
                   generalize hU8 : (((((W7.setCell ⟨W5.heap.size, 0, none⟩ (.int .i64 (ve : Nat))).setCell ⟨W5.heap.size, 1, none⟩ (.int .i64 (vq : Nat))).setCell ⟨W5.heap.size, 2, none⟩ (.int .i64 (IntKind.i64.wrap (n32 v1)))).setCell ⟨W5.heap.size, 3, none⟩ (.int .i64 (IntKind.i64.wrap (n32 v2)))).setCell ⟨W5.heap.size, 4, none⟩ (.int .u32 (n32 v3))) = U8
                   have HB8 := Lib.hid (show Bag w U8 [.box W5.heap.size #[.int .i64 (ve : Nat), .int .i64 (vq : Nat), .int .i64 (IntKind.i64.wrap (n32 v1)), .int .i64 (IntKind.i64.wrap (n32 v2)), .int .u32 (n32 v3)] 91, .rdr p g vb k4 e4, .box b10 #[.string (str vt), .int .i64 (ve : Nat), .int .i64 (vq : Nat), .int .i64 (pa : Nat), .slice ag N cg] 33, .mine 5 ag cg vb, .box b8 #[.int .i64 0, .int .i64 0, .int .i64 0, .int .i64 0, .int .u32 0] 91] by rw [← hU8]; exact HX7.out.store 0 rfl [.int .i64 (ve : Nat), .int .i64 (vq : Nat), .int .i64 (IntKind.i64.wrap (n32 v1)), .int .i64 (IntKind.i64.wrap (n32 v2)), .int .u32 (n32 v3)] rfl)
                   generalize W5.heap.size = b14 at HB8 ⊢
                   clear HX7)
                | (have _ := tg4
                   generalize hU8 : (((((W7.setCell ⟨W4.heap.size, 0, none⟩ (.int .i64 (ve : Nat))).setCell ⟨W4.heap.size, 1, none⟩ (.int .i64 (vq : Nat))).setCell ⟨W4.heap.size, 2, none⟩ (.int .i64 (IntKind.i64.wrap (n32 v1)))).setCell ⟨W4.heap.size, 3, none⟩ (.int .i64 (IntKind.i64.wrap (n32 v2)))).setCell ⟨W4.heap.size, 4, none⟩ (.int .u32 (n32 v3))) = U8
                   have HB8 := Lib.hid (show Bag w U8 [.box W4.heap.size #[.int .i64 (ve : Nat), .int .i64 (vq : Nat), .int .i64 (IntKind.i64.wrap (n32 v1)), .int .i64 (IntKind.i64.wrap (n32 v2)), .int .u32 (n32 v3)] 91, .rdr p g vb k4 e4, .box b10 #[.string (str vt), .int .i64 (ve : Nat), .int .i64 (vq : Nat), .int .i64 (pa : Nat), .slice ag N cg] 33, .mine 5 ag cg vb, .box b8 #[.int .i64 0, .int .i64 0, .int .i64 0, .int .i64 0, .int .u32 0] 91] by rw [← hU8]; exact HX7.out.store 0 rfl [.int .i64 (ve : Nat), .int .i64 (vq : Nat), .int .i64 (IntKind.i64.wrap (n32 v1)), .int .i64 (IntKind.i64.wrap (n32 v2)), .int .u32 (n32 v3)] rfl)
                   generalize W4.heap.size = b14 at HB8 ⊢
                   clear HX7)
            all_goals
              have HF4 := Lib.hid (four HA1.out A2 A3 A4)
              go_wp2_with fail
              go_meet
              case rel => exact ⟨b14, v1, v2, v3, k4, e4, rfl, HB8.out, HF4.out.1, HF4.out.2⟩
          case rest =>
            obtain ⟨b14, v1, v2, v3, k4, e4, rfl, hB8, hf1, hf2⟩ := hcut
            have HB8 := Lib.hid hB8
            have HF4 := Lib.hid (And.intro hf1 hf2)
            clear hB8 hf1 hf2 HB4 HA1 q1 q2 qf ql
            go_wp2_with fail
            refine (readerErr (HB8.out.rdrAt 1 rfl)).mono ?_
            rintro e W9 ⟨rfl, hs⟩
            have HB9 := Lib.hid (HB8.out.still hs)
            clear hs HB8
            by_cases he4 : e4 = 0
            · subst he4
              have hN16 : 16 ≤ N := by
                rcases Nat.lt_or_ge N 16 with h | h
                · exact absurd rfl (HF4.out.2 (by rw [HN.out]; exact h))
                · exact h
              obtain ⟨hv0, hv1, hv2, hv3, rfl, _⟩ := HF4.out.1 (by rw [HN.out]; exact hN16)
              obtain ⟨x0, hx0⟩ : ∃ x0, (n4 vb 0).toNat = x0 := ⟨_, rfl⟩
              obtain ⟨x1, hx1⟩ : ∃ x1, (n4 vb 4).toNat = x1 := ⟨_, rfl⟩
              obtain ⟨x2, hx2⟩ : ∃ x2, (n4 vb 8).toNat = x2 := ⟨_, rfl⟩
              have HV3 := Lib.hid (show (n4 vb 12).setWidth 32 = v3 from hv3.symm)
              have l0 := n4_lt vb 0
              have l1 := n4_lt vb 4
              have l2 := n4_lt vb 8
              rw [hx0] at l0
              rw [hx1] at l1
              rw [hx2] at l2
              have y0 : n32 v0 = (x0 : Int) := by rw [hv0, n32_n4, hx0]
              have y1 : IntKind.i64.wrap (n32 v1) = (x1 : Int) := by rw [hv1, n32_n4, hx1]; exact wrapI64 _ (by omega) (by omega)
              have y2 : IntKind.i64.wrap (n32 v2) = (x2 : Int) := by rw [hv2, n32_n4, hx2]; exact wrapI64 _ (by omega) (by omega)
              have yw : IntKind.i64.wrap (x0 : Int) = (x0 : Int) := wrapI64 _ (by omega) (by omega)
              have HB10 := Lib.hid (show Bag w W9 [.box b14 #[.int .i64 (ve : Nat), .int .i64 (vq : Nat), .int .i64 (x1 : Nat), .int .i64 (x2 : Nat), .int .u32 (n32 v3)] 91, .rdr p g vb 16 0, .box b10 #[.string (str vt), .int .i64 (ve : Nat), .int .i64 (vq : Nat), .int .i64 (pa : Nat), .slice ag N cg] 33, .mine 5 ag cg vb, .box b8 #[.int .i64 0, .int .i64 0, .int .i64 0, .int .i64 0, .int .u32 0] 91] by have h := HB9.out; rw [y1, y2] at h; exact h)
              have HC5 := Lib.hid (show C = (N == 16 && (x0 == n && (x1 == pcN x2 && decide (x1 + 11 ≤ room)))) by rw [HC3.out, hx0, hx1, hx2])
              rw [y0]
              have HY := Lib.hid (And.intro hx1 hx2)
              clear HB9 HC3 hv0 hv1 hv2 hv3 hx0 hx1 hx2 y0 y1 y2 HF4
              go_wp2_with fail
              refine (readerLeft0 (HB10.out.rdrAt 1 rfl) (by have := HN.out; omega)).mono ?_
              rintro e W10 ⟨rfl, hs⟩
              have HB11 := Lib.hid (HB10.out.still hs)
              clear hs HB10
              obtain ⟨z, hz⟩ : ∃ z : Int, ((vb.length : Int) - ((16 : Nat) : Int)) = z := ⟨_, rfl⟩
              rw [hz]
              rw [HN.out] at hz
              by_cases h16 : N = 16
              · obtain rfl : z = 0 := by omega
                clear hz
                have HC6 := Lib.hid (show C = (x0 == n && (x1 == pcN x2 && decide (x1 + 11 ≤ room))) by rw [HC5.out, h16]; rfl)
                clear HC5
                have wne : b14 ≠ b8 := HB11.out.boxNe 0 4 rfl rfl (by decide)
                go_wp2_with fail
                cases hA : (x0 == n) with
                | false =>
                  have hA1 : ((x0 : Int) == (n : Int)) = false := by simp only [beq_eq_false_iff_ne] at hA ⊢; omega
                  have HCX := Lib.hid (show C = false by rw [HC6.out, hA]; rfl)
                  clear HC6 hA
                  refine wp_calm (regionCounts_a wne hA1 yw (HB11.out.box 4 rfl) (HB11.out.box 0 rfl) ?_)
                  intro v74 v75 v76 v77 v78 v79 v80 v81 v82 v83 v84 v85 v86 v87 v88 v89 v90 v91 v92 v93
                  dsimp only
                  have HF := Lib.hid (HB11.out.drew.store 4 rfl [.int .i64 (ve : Nat), .int .i64 (vq : Nat), .int .i64 (x1 : Nat), .int .i64 (x2 : Nat), .int .u32 (n32 v3)] rfl)
                  generalize Bag.setAll W10.drew b8 0 [.int .i64 (ve : Nat), .int .i64 (vq : Nat), .int .i64 (x1 : Nat), .int .i64 (x2 : Nat), .int .u32 (n32 v3)] = WF at HF ⊢
                  go_wp2_with fail
                  refine bodyPost_retCT (g := b8) (cs := #[.int .i64 (ve : Nat), .int .i64 (vq : Nat), .int .i64 (x1 : Nat), .int .i64 (x2 : Nat), .int .u32 (n32 v3)]) rfl rfl (HF.out.box 4 rfl) Tryd.underlying91 rfl rfl rfl ?_
                  refine ⟨⟨ve, vq, x1, x2, v3⟩, ?_, ?_, ?_⟩
                  · rw [HC.out, HCX.out] <;> rfl
                  · intro _
                    unfold countsS
                    rw [HGV.out]
                    simp only [Int.toNat_natCast]
                    rw [HY.out.1, HY.out.2, HV3.out]
                  · exact HF.out.below
                | true =>
                  obtain rfl : x0 = n := by simpa using hA
                  have HC7 := Lib.hid (show C = (x1 == pcN x2 && decide (x1 + 11 ≤ room)) by rw [HC6.out, hA]; rfl)
                  clear HC6 hA
                  obtain ⟨K, hK⟩ : ∃ K, pcN x2 = K := ⟨_, rfl⟩
                  have hPi := fun (u : World) => wPieces' x2 u (by omega)
                  rw [hK] at hPi
                  rw [hK] at HC7
                  clear hK
                  cases hA : (x1 == K) with
                  | false =>
                    have hA1 : ((x1 : Int) == (K : Int)) = false := by simp only [beq_eq_false_iff_ne] at hA ⊢; omega
                    have HCX := Lib.hid (show C = false by rw [HC7.out, hA]; rfl)
                    clear HC7 hA
                    refine wp_calm (regionCounts_b wne (by simp) yw hPi hA1 (HB11.out.box 4 rfl) (HB11.out.box 0 rfl) ?_)
                    intro v74 v75 v76 v77 v78 v79 v80 v81 v82 v83 v84 v85 v86 v87 v88 v89 v90 v91 v92 v93
                    dsimp only
                    have HF := Lib.hid (HB11.out.drew.store 4 rfl [.int .i64 (ve : Nat), .int .i64 (vq : Nat), .int .i64 (x1 : Nat), .int .i64 (x2 : Nat), .int .u32 (n32 v3)] rfl)
                    generalize Bag.setAll W10.drew b8 0 [.int .i64 (ve : Nat), .int .i64 (vq : Nat), .int .i64 (x1 : Nat), .int .i64 (x2 : Nat), .int .u32 (n32 v3)] = WF at HF ⊢
                    go_wp2_with fail
                    refine bodyPost_retCT (g := b8) (cs := #[.int .i64 (ve : Nat), .int .i64 (vq : Nat), .int .i64 (x1 : Nat), .int .i64 (x2 : Nat), .int .u32 (n32 v3)]) rfl rfl (HF.out.box 4 rfl) Tryd.underlying91 rfl rfl rfl ?_
                    refine ⟨⟨ve, vq, x1, x2, v3⟩, ?_, ?_, ?_⟩
                    · rw [HC.out, HCX.out] <;> rfl
                    · intro _
                      unfold countsS
                      rw [HGV.out]
                      simp only [Int.toNat_natCast]
                      rw [HY.out.1, HY.out.2, HV3.out]
                    · exact HF.out.below
                  | true =>
                    obtain rfl : x1 = K := by simpa using hA
                    have HCX := Lib.hid (show C = decide (x1 + 11 ≤ room) by rw [HC7.out, hA]; rfl)
                    clear HC7 hA
                    obtain ⟨y, hy⟩ : ∃ y, x1 + 11 = y := ⟨_, rfl⟩
                    have hy1 : (x1 : Int) + 11 = (y : Int) := by omega
                    have hy2 : IntKind.i64.wrap (y : Int) = (y : Int) := wrapI64 _ (by omega) (by omega)
                    rw [hy] at HCX
                    clear hy
                    refine wp_calm (regionCounts_c wne (by simp) yw hPi (by simp) hy1 hy2 (HB11.out.box 4 rfl) (HB11.out.box 0 rfl) ?_)
                    intro v74 v75 v76 v77 v78 v79 v80 v81 v82 v83 v84 v85 v86 v87 v88 v89 v90 v91 v92 v93
                    dsimp only
                    have HF := Lib.hid (HB11.out.drew.store 4 rfl [.int .i64 (ve : Nat), .int .i64 (vq : Nat), .int .i64 (x1 : Nat), .int .i64 (x2 : Nat), .int .u32 (n32 v3)] rfl)
                    generalize Bag.setAll W10.drew b8 0 [.int .i64 (ve : Nat), .int .i64 (vq : Nat), .int .i64 (x1 : Nat), .int .i64 (x2 : Nat), .int .u32 (n32 v3)] = WF at HF ⊢
                    go_wp2_with fail
                    refine bodyPost_retCT (g := b8) (cs := #[.int .i64 (ve : Nat), .int .i64 (vq : Nat), .int .i64 (x1 : Nat), .int .i64 (x2 : Nat), .int .u32 (n32 v3)]) rfl rfl (HF.out.box 4 rfl) Tryd.underlying91 rfl rfl rfl ?_
                    refine ⟨⟨ve, vq, x1, x2, v3⟩, ?_, ?_, ?_⟩
                    · rw [HC.out, HCX.out] <;> (refine congrArg Ending.returned (congrArg Value.tuple ?_); simp only [Int.ofNat_le]; rfl)
                    · intro _
                      unfold countsS
                      rw [HGV.out]
                      simp only [Int.toNat_natCast]
                      rw [HY.out.1, HY.out.2, HV3.out]
                    · exact HF.out.below
              · have hz0 : 0 < z := by omega
                have HC2 := Lib.hid (show C = false by rw [HC5.out, show (N == 16) = false from by rw [beq_eq_false_iff_ne]; exact h16]; rfl)
                clear HC5 hz
                obtain ⟨w0, w1, w2, w3, w4, wf⟩ := cells5 (HB11.out.box 4 rfl)
                have wl := HB11.out.boxLt 4 rfl
                go_wp2_with fail
                have HF := Lib.hid ((HB11.out.store 4 rfl [.int .i64 0, .int .i64 0, .int .i64 0, .int .i64 0, .int .u32 0] rfl))
                refine bodyPost_retCT (g := b8) (cs := #[.int .i64 0, .int .i64 0, .int .i64 0, .int .i64 0, .int .u32 0]) rfl rfl (HF.out.box 4 rfl) Tryd.underlying91 rfl rfl rfl ?_
                refine ⟨Sup.zero, ?_, ?_, ?_⟩
                · rw [HC.out, HC2.out]
                  show _ = Ending.returned (.tuple #[.agg #[.int .i64 0, .int .i64 0, .int .i64 0, .int .i64 0, .int .u32 (n32 0#32)], .bool false])
                  rw [n32_z] <;> rfl
                · intro h
                  rw [HC.out, HC2.out] at h
                  cases h
                · exact HF.out.below
            · have hne : (e4 != 0) = true := by rw [bne_iff_ne]; exact he4
              have hN16 : N ≠ 16 := fun h => he4 (HF4.out.1 (by rw [HN.out, h]; decide)).2.2.2.2.2
              have HC2 := Lib.hid (show C = false by rw [HC3.out, show (N == 16) = false from by rw [beq_eq_false_iff_ne]; exact hN16]; rfl)
              clear HF4 HC3 he4
              obtain ⟨w0, w1, w2, w3, w4, wf⟩ := cells5 (HB9.out.box 4 rfl)
              have wl := HB9.out.boxLt 4 rfl
              go_wp2_with fail
              have HF := Lib.hid ((HB9.out.store 4 rfl [.int .i64 0, .int .i64 0, .int .i64 0, .int .i64 0, .int .u32 0] rfl))
              refine bodyPost_retCT (g := b8) (cs := #[.int .i64 0, .int .i64 0, .int .i64 0, .int .i64 0, .int .u32 0]) rfl rfl (HF.out.box 4 rfl) Tryd.underlying91 rfl rfl rfl ?_
              refine ⟨Sup.zero, ?_, ?_, ?_⟩
              · rw [HC.out, HC2.out]
                show _ = Ending.returned (.tuple #[.agg #[.int .i64 0, .int .i64 0, .int .i64 0, .int .i64 0, .int .u32 (n32 0#32)], .bool false])
                rw [n32_z] <;> rfl
              · intro h
                rw [HC.out, HC2.out] at h
                cases h
              · exact HF.out.below
end Wl
end Go.Proofs.YthaiibfnjgfgjaaDoor
namespace Go.Proofs.YthaiibfnjgfgjaaDoor
open Go.RowKit
theorem Bag.appendN {P : Program} {w W : World} {l : List It} {ops : Array Oper} {rest : List Oper} {o : Oper} {a : Act} {Q : Exit → Act → World → Prop} (hgd : o.guard = none) (s x : Operand) (t : TypeId)
    (ho : o.op = .call { callee := .builtin .append, args := #[s, x], argTypes := #[t, t] })
    (e : TypeId) (i : TypeInfo) (z : Value) (size bytes : Nat) (ht : P.underlying t = some (.slice e)) (hi : P.info? e = some i) (hz : i.zero = some z) (hsize : i.size = size) (hby : i.bytes = bytes) (hzs : z.cells.size = size) (hsz : 0 < size)
    (k : Nat) (v : Value) (n : Nat) (xs : List Value) (hB : Bag w W l) (hk : l[k]? = some (.lst e size v n xs)) (hs : a.eval s = v)
    (b off : Nat) (hx : a.eval x = .slice (some ⟨b, off, none⟩) 1 1) (us : List Value) (hl : us.length = size) (hu : ∀ (j : Nat) (y : Value), us[j]? = some y → W.cell? ⟨b, off + j, none⟩ = some y ∧ y.oneCell' = true) (hn : n + 1 ≤ maxLen) (hbytes : (n + 1) * bytes ≤ 140737488355328)
    (h : ∀ g cap W', Bag w W' (l.set k (.lst e size (.slice (some ⟨g, 0, none⟩) (n + 1) cap) (n + 1) (xs ++ us))) → W.heap.size ≤ W'.heap.size → wpList P ops Q rest (a.put o.dst (.slice (some ⟨g, 0, none⟩) (n + 1) cap)) W') :
    wpList P ops Q (o :: rest) a W := by
  have hown := hB.lst k hk
  refine wpList_append_lies (P := P) W hgd s x t ho 0 e i z size bytes ht hi hz hsize hby hzs hsz v n xs hs hown ⟨b, off, none⟩ 1 1 us hx (by omega) ?_ ?_ (by decide) hn hbytes (Nat.zero_le _) _ rfl ?_
  · intro j y hj
    rw [Addr.add_lit]
    exact (hu j y hj).1
  · intro y hy
    obtain ⟨j, hj⟩ := List.mem_iff_getElem?.1 hy
    exact (hu j y hj).2
  · intro g cap W' h2 h3 h4 h5
    refine h g cap W' (hB.turn k hk (S := fun b => v.ownBlock = some b) ⟨h3.os, h3.tape, h3.output, h3.size, fun b hb hne => h3.block b hb fun e => hne e.symm⟩ ?_ (It.lst_of h2) ?_) h3.size
    · intro b hb
      rcases hown.2 with ⟨rfl, _⟩ | ⟨g', cap', cur, rfl, _⟩
      · cases hb
      · simp only [Value.ownBlock, Option.some.injEq] at hb
        subst hb
        exact ⟨_, _, rfl⟩
    · rintro b ⟨n', cap', hb⟩
      simp only [Value.slice.injEq, Option.some.injEq, Addr.mk.injEq] at hb
      obtain ⟨⟨rfl, _⟩, _⟩ := hb
      rcases h4 with h4 | h4
      · left
        rcases hown.2 with ⟨rfl, _⟩ | ⟨g', cap', cur, rfl, _⟩
        · cases h4
        · simp only [Value.ownBlock, Option.some.injEq] at h4
          subst h4
          exact ⟨_, _, rfl⟩
      · right; omega
theorem Bag.formN {w W : World} {l : List It} (h : Bag w W l) (k : Nat) {e size n : Nat} {v : Value} {xs : List Value} (hk : l[k]? = some (.lst e size v n xs)) : ∃ ao cap, v = .slice ao n cap ∧ n ≤ cap ∧ xs.length = n * size := by
  refine (h.lst k hk).2.elim ?_ ?_
  · rintro ⟨rfl, rfl⟩
    exact ⟨none, 0, rfl, Nat.le_refl _, (h.lst k hk).1⟩
  · rintro ⟨g, cap, cur, rfl, _, _, hc, _⟩
    exact ⟨_, cap, rfl, hc, (h.lst k hk).1⟩
theorem Bag.atN {w W : World} {l : List It} (h : Bag w W l) (k : Nat) {e size n : Nat} {v : Value} {xs : List Value} (hk : l[k]? = some (.lst e size v n xs)) (hn : 0 < n) : ∃ g cap, v = .slice (some ⟨g, 0, none⟩) n cap ∧ n ≤ cap ∧ (∀ j, j < n * size → W.cell? ⟨g, j, none⟩ = xs[j]?) ∧ ∀ j, W.frozen? ⟨g, j, none⟩ = false := by
  obtain ⟨h1, h2⟩ := h.lst k hk
  rcases h2 with ⟨_, h0⟩ | ⟨g, cap, cur, rfl, _, hh, hc, _, hs, ht⟩
  · omega
  · refine ⟨g, cap, rfl, hc, fun j hj => ?_, fun j => frozen_of_row W g j cur e hh⟩
    rw [cell_of_row W g _ cur e (0, 0) hh, ← ht, List.getElem?_take_of_lt hj, Array.getElem?_toList]
theorem Bag.putN {w W : World} {l : List It} (h : Bag w W l) (k : Nat) {e size n : Nat} {g cap : Nat} {xs : List Value} (hk : l[k]? = some (.lst e size (.slice (some ⟨g, 0, none⟩) n cap) n xs)) (j : Nat) (u : Value) :
    Bag w (W.setCell ⟨g, j, none⟩ u) (l.set k (.lst e size (.slice (some ⟨g, 0, none⟩) n cap) n (xs.set j u))) := by
  obtain ⟨h1, h2⟩ := h.lst k hk
  rcases h2 with ⟨h0, _⟩ | ⟨g', cap', cur, hv', hg, hh, hc, hm, hs, ht⟩
  · cases h0
  · simp only [Value.slice.injEq, Option.some.injEq, Addr.mk.injEq, and_true, true_and] at hv'
    obtain ⟨rfl, rfl⟩ := hv'
    refine h.turn k hk (Only.setCell W g j u) (fun b hb => ⟨n, cap, by subst hb; rfl⟩) ?_ (fun b hb => Or.inl hb)
    refine ⟨by simp; omega, Or.inr ⟨g, cap, _, rfl, Nat.zero_le _, heap_setCell_same W g j cur e u hh, hc, hm, by simpa using hs, ?_⟩⟩
    simp only [Array.toList_setIfInBounds] at ht ⊢
    rw [← ht, List.take_set]
namespace Wl
def Sup.cells (s : Sup) : List Value := [.int .i64 (s.epoch : Nat), .int .i64 (s.seq : Nat), .int .i64 (s.pieces : Nat), .int .i64 (s.len : Nat), .int .u32 (n32 s.sum)]
def supCells (l : List Sup) : List Value := l.flatMap Sup.cells
theorem supCells_app (l : List Sup) (s : Sup) : supCells l ++ s.cells = supCells (l ++ [s]) := by simp [supCells]
/-- The superblocks that count from the i-th on, k of them, as they lie. -/
def foundG (n room : Nat) : Nat → Nat → List Sup → Dk → Fnd
  | 0, _, xs, D => ⟨D, 0, xs⟩
  | k + 1, i, xs, D => if D.readE (i : Int) = 0 then foundG n room k (i + 1) (xs ++ (countsP (D.readB (i : Int)) i n room).toList) (D.readD (i : Int)) else ⟨D.readD (i : Int), D.readE (i : Int), []⟩
theorem foundG_succ (n room k i : Nat) (xs : List Sup) (D : Dk) : foundG n room (k + 1) i xs D = if D.readE (i : Int) = 0 then foundG n room k (i + 1) (xs ++ (countsP (D.readB (i : Int)) i n room).toList) (D.readD (i : Int)) else ⟨D.readD (i : Int), D.readE (i : Int), []⟩ := rfl
def swapL : List Sup → List Sup
  | [a, b] => if a.epoch < b.epoch then [b, a] else [a, b]
  | l => l
theorem swapL_no {a b : Sup} (h : ¬ a.epoch < b.epoch) : swapL [a, b] = [a, b] := if_neg h
theorem swapL_yes {a b : Sup} (h : a.epoch < b.epoch) : swapL [a, b] = [b, a] := if_pos h
theorem foundP_G (D : Dk) (n room : Nat) : foundP D n room = ⟨(foundG n room 2 0 [] D).D, (foundG n room 2 0 [] D).e, swapL (foundG n room 2 0 [] D).l⟩ := by
  unfold foundP foundG
  simp only [Int.ofNat_zero, List.nil_append]
  by_cases h0 : D.readE 0 = 0
  · rw [if_pos h0, if_pos h0]
    unfold foundG
    simp only [Int.ofNat_one, Nat.zero_add]
    by_cases h1 : (D.readD 0).readE 1 = 0
    · rw [if_pos h1, if_pos h1]
      unfold foundG
      refine congrArg (Fnd.mk _ _) ?_
      cases countsP (D.readB 0) 0 n room <;> cases countsP ((D.readD 0).readB 1) 1 n room <;> rfl
    · rw [if_neg h1, if_neg h1]
      rfl
  · rw [if_neg h0, if_neg h0]
    rfl
def FndR (w : World) (p : Nat) (rest : List It) (F : Fnd) (e : Ending) (W' : World) : Prop := ∃ L' v, e = .returned (.tuple #[v, .int .i64 F.e]) ∧ Bag w W' (.lst 91 5 v F.l.length (supCells F.l) :: dkl p L' F.D rest)
theorem info_super : (Tryd.prog.info? 91).map (fun i => (i.zero, i.size, i.bytes)) = some (some (.agg #[.int .i64 0, .int .i64 0, .int .i64 0, .int .i64 0, .int .u32 0]), 5, 40) := by kernel_rfl
theorem cell_new5 (w : World) (u0 u1 u2 u3 u4 : Value) (t : TypeId) (h0 : u0.oneCell' = true) (h1 : u1.oneCell' = true) (h2 : u2.oneCell' = true) (h3 : u3.oneCell' = true) (h4 : u4.oneCell' = true) : ∀ (j : Nat) (y : Value), [u0, u1, u2, u3, u4][j]? = some y → (w.alloc (.cells #[u0, u1, u2, u3, u4] t (0, 0))).cell? ⟨w.heap.size, 0 + j, none⟩ = some y ∧ y.oneCell' = true := by
  intro j y hj
  have hx := heap_alloc_new w (.cells #[u0, u1, u2, u3, u4] t (0, 0))
  match j with
  | 0 => simp at hj; subst hj; exact ⟨cell_of_row _ _ 0 _ _ _ hx, h0⟩
  | 1 => simp at hj; subst hj; exact ⟨cell_of_row _ _ 1 _ _ _ hx, h1⟩
  | 2 => simp at hj; subst hj; exact ⟨cell_of_row _ _ 2 _ _ _ hx, h2⟩
  | 3 => simp at hj; subst hj; exact ⟨cell_of_row _ _ 3 _ _ _ hx, h3⟩
  | 4 => simp at hj; subst hj; exact ⟨cell_of_row _ _ 4 _ _ _ hx, h4⟩
  | j + 5 => simp at hj
theorem lst_nil {w W : World} {x y : It} {l : List It} (h : Bag w W (x :: y :: l)) : Bag w W (.lst 91 5 (.slice none 0 0) 0 (supCells []) :: l) := (h.tail.tail).nil _ _
set_option maxRecDepth 100000 in
set_option maxHeartbeats 4000000 in
theorem wFound (w W : World) (p : Nat) (L : Lay) (D : Dk) (rest : List It) (m n : Nat) (hn : D.ls.length = n) (hn0 : 32 ≤ n) (hn1 : n ≤ 8192)
   (hw : D.Wf m) (hm : m ≤ 400000000000) (hf : D.fs.length ≤ 1000000000000000) (ht : Tab w) (hT : 0 < w.heap.size) (hB : Bag w W (dkl p L D rest)) :
   Calls Tryd.prog 52 #[.pointer (some ⟨p, 0, none⟩), .int .i64 (roomN n : Nat)] W (FndR w p rest (foundP D n (roomN n))) := by
  obtain ⟨i0, hi0, hz0, hz1, hz2⟩ := info_parts info_super
  have hrm : roomN n ≤ 4095 := by unfold roomN; omega
  rw [foundP_G]
  obtain ⟨rm, hrme⟩ : ∃ rm, roomN n = rm := ⟨_, rfl⟩
  rw [hrme] at hrm ⊢
  clear hrme
  obtain ⟨G, hG⟩ : ∃ G, foundG n rm 2 0 [] D = G := ⟨_, rfl⟩
  rw [hG]
  have HG := Lib.hid hG
  have HB := Lib.hid hB
  have HN := Lib.hid hn
  have HW := Lib.hid hw
  have HT := Lib.hid (And.intro ht hT)
  clear hG hB hn hw ht hT
  go_enter Tryd.func52, Tryd.ntmps52
  go_wp2_with fail
  go_loopw [6, 12] (fun v t wr => ∃ (i : Nat) (xs : List Sup) (D' : Dk) (L' : Lay), i ≤ 2 ∧ t = .int .i64 i ∧ xs.length ≤ i ∧ D'.Wf (m + i) ∧ D'.ls.length = n ∧ D'.fs = D.fs ∧ foundG n rm (2 - i) i xs D' = G ∧ Bag w wr (.lst 91 5 v xs.length (supCells xs) :: dkl p L' D' rest)) (fun _ t _ => 2 - (intOf t).toNat)
  case atStart => exact ⟨0, [], D, L, Nat.zero_le _, rfl, Nat.le_refl _, HW.out, HN.out, rfl, HG.out, HB.out.nil _ _⟩
  case round =>
    obtain ⟨i, xs, D', L', hi, rfl, hxl, hW, hDn, hF, hP, hB⟩ := hrel
    clear HB
    have HB := Lib.hid hB
    have HW' := Lib.hid hW
    have HDN := Lib.hid hDn
    have HF := Lib.hid hF
    have HP := Lib.hid hP
    clear hB hW hDn hF hP
    obtain ⟨av, cv, rfl, hcv, _⟩ := HB.out.formN 0 rfl
    by_cases hlt : i < 2
    · have hstep : (if D'.readE (i : Int) = 0 then foundG n rm (2 - (i + 1)) (i + 1) (xs ++ (countsP (D'.readB (i : Int)) i n rm).toList) (D'.readD (i : Int)) else ⟨D'.readD (i : Int), D'.readE (i : Int), []⟩) = G := by
        have h := HP.out
        rw [show 2 - i = (2 - (i + 1)) + 1 by omega, foundG_succ] at h
        exact h
      have hrd := dkRead w wr p L' D' (.lst 91 5 (.slice av xs.length cv) xs.length (supCells xs) :: rest) (m + i) (i : Int) HW'.out (by omega) (by rw [HF.out]; exact hf) (by omega) (by omega) (dkl_in HB.out)
      obtain ⟨x, hx⟩ : ∃ x, D'.readE (i : Int) = x := ⟨_, rfl⟩
      obtain ⟨b, hb⟩ : ∃ b, D'.readB (i : Int) = b := ⟨_, rfl⟩
      obtain ⟨N, hNe⟩ : ∃ N, b.length = N := ⟨_, rfl⟩
      have hN5 : x = 0 → N = 512 := fun h0 => by rw [← hNe, ← hb]; exact readB_len HW'.out (by rw [HDN.out]; omega) (by rw [hx]; exact h0)
      unfold ReadR at hrd
      rw [hx, hb, hNe] at hrd
      rw [hx, hb] at hstep
      have HNN := Lib.hid hNe
      have HN5 := Lib.hid hN5
      have HSTEP := Lib.hid hstep
      have HRD := Lib.hid hrd
      clear hx hb hNe hN5 hstep hrd
      go_wp2_with fail
      refine HRD.out.mono ?_
      clear HRD
      rintro e W1 ⟨ar, cr, rfl, hB1⟩
      have HB2 := Lib.hid hB1
      clear hB1 HB
      by_cases hx0 : x = 0
      · subst hx0
        have hN := HN5.out rfl
        have hbl : b.length = 512 := by rw [HNN.out]; exact hN
        subst hN
        have HSTEP2 := Lib.hid ((if_pos rfl).symm.trans HSTEP.out)
        have HBL := Lib.hid hbl
        clear HSTEP HN5 hbl HNN
        have hse := dkSectors (by rw [(sm_read D' _).ls, HDN.out]; omega) HB2.out.tail
        rw [(sm_read D' _).ls, HDN.out] at hse
        go_wp2_with fail
        refine hse.mono ?_
        clear hse
        rintro e w' ⟨rfl, hw⟩
        obtain rfl := hw
        have hcr := HB2.out.mineLe 0 rfl
        rw [HBL.out] at hcr
        have hco := wCounts b ar cr i n rm W1 HBL.out hcr hlt hn1 hrm (HB2.out.mineRd 0 rfl) (HT.out.1.below HB2.out.below HT.out.2) (Nat.lt_of_lt_of_le HT.out.2 HB2.out.below.size)
        obtain ⟨C, hC⟩ : ∃ C, countsO b i n rm = C := ⟨_, rfl⟩
        unfold CntR at hco
        rw [hC] at hco
        have hcp : countsP b i n rm = if C = true then some (countsS b) else none := by unfold countsP; rw [hC]
        rw [hcp] at HSTEP2
        have HCO := Lib.hid hco
        clear hC hcp hco hcr
        go_wp2_with fail
        refine HCO.out.mono ?_
        clear HCO
        rintro e W2 ⟨⟨x0, x1, x2, x3, x4⟩, he, hxs, hb2⟩
        obtain rfl : e = .returned (.tuple #[.agg #[.int .i64 (x0 : Nat), .int .i64 (x1 : Nat), .int .i64 (x2 : Nat), .int .i64 (x3 : Nat), .int .u32 (n32 x4)], .bool C]) := he
        have HXS := Lib.hid hxs
        have hB3 := dkl_out (HB2.out.call hb2).tail
        have HB3 := Lib.hid (hB3.alloc #[.int .i64 (x0 : Nat), .int .i64 (x1 : Nat), .int .i64 (x2 : Nat), .int .i64 (x3 : Nat), .int .u32 (n32 x4)] 91)
        clear hxs hb2 hB3 HB2
        have HWN := Lib.hid (show (D'.readD (i : Int)).Wf (m + (i + 1)) from HW'.out.read (i : Int))
        cases C with
        | false =>
          go_wp2_with fail
          have HP2 := Lib.hid HSTEP2.out
          simp only [Bool.false_eq_true, if_false, Option.toList, List.append_nil] at HP2
          go_roundw
          case rel => exact ⟨i + 1, xs, D'.readD (i : Int), L', by omega, by go_num, by omega, HWN.out, by rw [(sm_read D' _).ls]; exact HDN.out, (sm_read D' _).fs.trans HF.out, HP2.out, HB3.out.tail⟩
          case measure => simp [intOf]; omega
        | true =>
          have HP2 := Lib.hid HSTEP2.out
          rw [← HXS.out rfl] at HP2
          simp only [if_true, Option.toList] at HP2
          generalize hU : W2.alloc (.cells #[.int .i64 (x0 : Nat), .int .i64 (x1 : Nat), .int .i64 (x2 : Nat), .int .i64 (x3 : Nat), .int .u32 (n32 x4)] 91 (0, 0)) = U at *
          generalize hq : W2.heap.size = q at *
          obtain ⟨q0, q1, q2, q3, q4, qf⟩ := cells5 (HB3.out.box 0 rfl)
          have ql := HB3.out.boxLt 0 rfl
          go_wp2_with (at_builtin; refine Bag.appendN rfl _ _ 86 rfl 91 i0 _ 5 40 Tryd.underlying86 hi0 hz0 hz1 hz2 rfl (by decide) 1 _ xs.length (supCells xs) (HB3.out.call (fresh1 U (.cells #[.int .i64 (x0 : Nat), .int .i64 (x1 : Nat), .int .i64 (x2 : Nat), .int .i64 (x3 : Nat), .int .u32 (n32 x4)] 91 (0, 0)))) rfl rfl U.heap.size 0 rfl (Sup.cells ⟨x0, x1, x2, x3, x4⟩) rfl (cell_new5 U _ _ _ _ _ _ rfl rfl rfl rfl rfl) (by unfold maxLen; omega) (by omega) ?_)
          intro gx cx W3 hB4 _
          try simp only [List.set_cons_zero, List.set_cons_succ] at hB4
          have HB5 := Lib.hid (show Bag w W3 (.lst 91 5 (.slice (some ⟨gx, 0, none⟩) (xs.length + 1) cx) (xs ++ [(⟨x0, x1, x2, x3, x4⟩ : Sup)]).length (supCells (xs ++ [⟨x0, x1, x2, x3, x4⟩])) :: dkl p L' (D'.readD (i : Int)) rest) by rw [List.length_append, ← supCells_app]; exact hB4.tail)
          have hxl1 : (xs ++ [(⟨x0, x1, x2, x3, x4⟩ : Sup)]).length ≤ i + 1 := by rw [List.length_append]; simp only [List.length_singleton]; omega
          have HXL := Lib.hid hxl1
          clear hB4 hxl1 HB3 q0 q1 q2 q3 q4 qf ql
          go_wp2_with fail
          go_roundw
          case rel => exact ⟨i + 1, _, D'.readD (i : Int), L', by omega, by go_num, HXL.out, HWN.out, by rw [(sm_read D' _).ls]; exact HDN.out, (sm_read D' _).fs.trans HF.out, HP2.out, HB5.out⟩
          case measure => simp [intOf]; omega
      · have HG2 := Lib.hid ((if_neg hx0).symm.trans HSTEP.out)
        have hxb : (x != 0) = true := by rw [bne_iff_ne]; exact hx0
        clear HSTEP hx0
        go_wp2_with fail
        go_ret2
        refine ⟨L', .slice none 0 0, ?_, ?_⟩
        · rw [← HG2.out] <;> rfl
        · rw [← HG2.out]; exact (dkl_out HB2.out.tail).tail.nil _ _
    · obtain rfl : i = 2 := by omega
      have HG2 := Lib.hid (show (⟨D', 0, xs⟩ : Fnd) = G from HP.out)
      clear HP
      match xs, hxl with
      | [], _ =>
        go_wp2_with fail
        go_quiet (fail)
        go_wp2_with fail
        go_ret2
        refine ⟨L', .slice av 0 cv, ?_, ?_⟩
        · rw [← HG2.out] <;> rfl
        · rw [← HG2.out]; first | exact HB.out | exact HB.out.drew | exact HB.out.drewN _
      | [a], _ =>
        go_wp2_with fail
        go_quiet (fail)
        go_wp2_with fail
        go_ret2
        refine ⟨L', .slice av 1 cv, ?_, ?_⟩
        · rw [← HG2.out] <;> rfl
        · rw [← HG2.out]; first | exact HB.out | exact HB.out.drew | exact HB.out.drewN _
      | [a, b], _ =>
        obtain ⟨g, cp, hv, hcp, hat, hfr⟩ := HB.out.atN 0 rfl (by simp)
        obtain ⟨rfl, rfl⟩ : av = some ⟨g, 0, none⟩ ∧ cv = cp := by cases hv; exact ⟨rfl, rfl⟩
        obtain ⟨a0, a1, a2, a3, a4⟩ := a
        obtain ⟨b0, b1, b2, b3, b4⟩ := b
        have c0 : wr.cell? ⟨g, 0, none⟩ = some (.int .i64 (a0 : Nat)) := hat 0 (by simp)
        have c1 : wr.cell? ⟨g, 1, none⟩ = some (.int .i64 (a1 : Nat)) := hat 1 (by simp)
        have c2 : wr.cell? ⟨g, 2, none⟩ = some (.int .i64 (a2 : Nat)) := hat 2 (by simp)
        have c3 : wr.cell? ⟨g, 3, none⟩ = some (.int .i64 (a3 : Nat)) := hat 3 (by simp)
        have c4 : wr.cell? ⟨g, 4, none⟩ = some (.int .u32 (n32 a4)) := hat 4 (by simp)
        have c5 : wr.cell? ⟨g, 5, none⟩ = some (.int .i64 (b0 : Nat)) := hat 5 (by simp)
        have c6 : wr.cell? ⟨g, 6, none⟩ = some (.int .i64 (b1 : Nat)) := hat 6 (by simp)
        have c7 : wr.cell? ⟨g, 7, none⟩ = some (.int .i64 (b2 : Nat)) := hat 7 (by simp)
        have c8 : wr.cell? ⟨g, 8, none⟩ = some (.int .i64 (b3 : Nat)) := hat 8 (by simp)
        have c9 : wr.cell? ⟨g, 9, none⟩ = some (.int .u32 (n32 b4)) := hat 9 (by simp)
        clear hat hv
        by_cases hab : a0 < b0
        · have hab1 : (a0 : Int) < (b0 : Int) := by omega
          go_wp2_with fail
          go_quiet (fail)
          go_wp2_with fail
          go_region_with (fail)
          all_goals
            go_wp2_with fail
            go_ret2
            have h0 := (HB.out.drewN nq).drew
            have h1 := h0.putN 0 rfl 0 (.int .i64 (b0 : Nat))
            have h2 := h1.putN 0 rfl 1 (.int .i64 (b1 : Nat))
            have h3 := h2.putN 0 rfl 2 (.int .i64 (b2 : Nat))
            have h4 := h3.putN 0 rfl 3 (.int .i64 (b3 : Nat))
            have h5 := h4.putN 0 rfl 4 (.int .u32 (n32 b4))
            have h6 := h5.putN 0 rfl 5 (.int .i64 (a0 : Nat))
            have h7 := h6.putN 0 rfl 6 (.int .i64 (a1 : Nat))
            have h8 := h7.putN 0 rfl 7 (.int .i64 (a2 : Nat))
            have h9 := h8.putN 0 rfl 8 (.int .i64 (a3 : Nat))
            have h10 := h9.putN 0 rfl 9 (.int .u32 (n32 a4))
            have HF := Lib.hid (show Bag w _ (.lst 91 5 (.slice (some ⟨g, 0, none⟩) 2 cv) 2 [.int .i64 (b0 : Nat), .int .i64 (b1 : Nat), .int .i64 (b2 : Nat), .int .i64 (b3 : Nat), .int .u32 (n32 b4), .int .i64 (a0 : Nat), .int .i64 (a1 : Nat), .int .i64 (a2 : Nat), .int .i64 (a3 : Nat), .int .u32 (n32 a4)] :: dkl p L' D' rest) from h10)
            clear h0 h1 h2 h3 h4 h5 h6 h7 h8 h9 h10
            refine ⟨L', .slice (some ⟨g, 0, none⟩) 2 cv, ?_, ?_⟩
            · rw [← HG2.out] <;> rfl
            · rw [← HG2.out]
              show Bag w _ (.lst _ 5 _ (swapL [⟨a0, a1, a2, a3, a4⟩, ⟨b0, b1, b2, b3, b4⟩]).length (supCells (swapL [⟨a0, a1, a2, a3, a4⟩, ⟨b0, b1, b2, b3, b4⟩])) :: _)
              rw [swapL_yes (a := ⟨a0, a1, a2, a3, a4⟩) (b := ⟨b0, b1, b2, b3, b4⟩) hab]
              exact HF.out
        · have hab1 : ¬ (a0 : Int) < (b0 : Int) := by omega
          go_wp2_with fail
          go_quiet (fail)
          go_wp2_with fail
          go_ret2
          refine ⟨L', .slice (some ⟨g, 0, none⟩) 2 cv, ?_, ?_⟩
          · rw [← HG2.out] <;> rfl
          · rw [← HG2.out]
            show Bag w _ (.lst _ 5 _ (swapL [⟨a0, a1, a2, a3, a4⟩, ⟨b0, b1, b2, b3, b4⟩]).length (supCells (swapL [⟨a0, a1, a2, a3, a4⟩, ⟨b0, b1, b2, b3, b4⟩])) :: _)
            rw [swapL_no (a := ⟨a0, a1, a2, a3, a4⟩) (b := ⟨b0, b1, b2, b3, b4⟩) hab]
            first | exact HB.out | exact HB.out.drew | exact HB.out.drewN _
end Wl
end Go.Proofs.YthaiibfnjgfgjaaDoor
