/- The region that calls next and draws its order, once for each walk: over its frame. -/
import Derived.Test.YtihndipgdogebaaLaneNext
import Derived.Test.YtihndipgdogebaaLaneLoop
namespace Go.Proofs.Ytihndipgdogebaa
open Go.RowKit
theorem wp_calm {P : Program} {c : Code} {K : Exit → Act → World → Prop} {a : Act} {w : World} (h : Code.wp P c (Exit.then (fun a w => K .normal a w) (fun _ _ _ => False)) a w) : Code.wp P c K a w :=
  Code.wp_mono (by intro e a w h; cases e <;> first | exact h | exact h.elim) h
def regionOf (n : Nat) : Code → Option Code
  | .region m ops d => if m = n then some (.region m ops d) else none
  | .seq a b => match regionOf n a with
    | some c => some c
    | none => regionOf n b
  | .block _ c => regionOf n c
  | .loop c => regionOf n c
  | .scope c => regionOf n c
  | .cond _ a b => match regionOf n a with
    | some c => some c
    | none => regionOf n b
  | _ => none
noncomputable def codeRises : Code := ((Try.f8.body.bind (regionOf 10)).getD .skip)
set_option maxRecDepth 1000000 in
set_option maxHeartbeats 8000000 in
theorem regionRises {wr : World} {b : Nat} {k1 : List (BitVec 8)} {s1 c1 n1 e1 f1 x1 y1 : Int} {ar : Option Addr} {cr : Nat} {ob oo len cop k : Nat} {kd og ob' oc oa os on : Int} {gv av : Int} {k2 : List (BitVec 8)} {s2 c2 n2 e2 f2 x2 y2 : Int}
    (hx : wr.heap[b]? = some (.cells #[.slice ar k1.length cr, .int .i64 s1, .int .i64 c1, .int .i64 n1, .int .u64 e1, .int .u64 f1, .int .i64 x1, .int .i64 y1] 27 (0, 0))) (hrd : Rd wr ar k1) (hlt : ∀ a, ar = some a → a.block < wr.heap.size) (hk : k < len) (_hlen : len ≤ 9223372036854775807)
    (hst : ∀ (W' : World), Rd W' ar k1 → Calls Try.prog 37 #[.agg #[.slice ar k1.length cr, .int .i64 s1, .int .i64 c1, .int .i64 n1, .int .u64 e1, .int .u64 f1, .int .i64 x1, .int .i64 y1], .agg #[.int .i64 kd, .int .i64 og, .int .i64 ob', .int .u64 oc, .int .u64 oa, .int .i64 os, .int .i64 on]] W' (StepR W' ar ⟨k2, s2, c2, n2, e2, f2, x2, y2⟩ [.int .i64 gv, .int .u64 av]))
    (g0 : wr.cell? ⟨ob, oo + k * 7, none⟩ = some (.int .i64 kd)) (g1 : wr.cell? ⟨ob, oo + k * 7 + 1, none⟩ = some (.int .i64 og)) (g2 : wr.cell? ⟨ob, oo + k * 7 + 2, none⟩ = some (.int .i64 ob')) (g3 : wr.cell? ⟨ob, oo + k * 7 + 3, none⟩ = some (.int .u64 oc)) (g4 : wr.cell? ⟨ob, oo + k * 7 + 4, none⟩ = some (.int .u64 oa)) (g5 : wr.cell? ⟨ob, oo + k * 7 + 5, none⟩ = some (.int .i64 os)) (g6 : wr.cell? ⟨ob, oo + k * 7 + 6, none⟩ = some (.int .i64 on))
    {r0 r1 r3 r4 r5 r6 r8 r10 r11 r12 r13 r14 r15 r16 r17 r18 r19 r20 r21 r22 r23 r24 r25 r26 r27 r28 r29 r30 r31 r32 r33 r34 r35 r36 r37 r38 r39 r40 r41 r42 r43 r44 r45 r46 r47 r48 r49 r50 r51 r52 r53 r54 r55 r56 r57 r58 r59 r60 r61 r62 r63 r64 r65 r66 r67 r68 r69 r70 r71 r72 r73 r74 r75 r76 r77 r78 r79 r80 r81 r82 r83 r84 r85 r86 r87 r88 r89 r90 r91 r92 r93 r94 r95 r96 r97 r98 r99 r100 r101 r102 r103 r104 r105 r106 r107 r108 r109 r110 r111 r112 r113 r114 r115 r116 r117 r118 r119 r120 r121 r122 r123 r124 r125 r126 r127 r128 r129 r130 r131 r132 r133 r134 r135 r136 r137 r138 r139 r140 r141 r142 r143 r144 r145 r146 r147 r148 r149 r150 r151 r152 r153 r154 r155 r156 r157 r158 r159 r160 r161 r162 r163 r164 r165 r166 r167 r168 r169 r170 r171 r172 r173 r174 r175 r176 r177 r178 r179 r180 r181 r182 r183 r184 r185 r186 r187 r188 r189 r190 r191 r192 : Value} {K1 : Act → World → Prop}
    (hK : ∀ (p o1 o2 v47 v48 v49 v50 v51 v52 v53 v54 v55 v56 : Value) (wc : World), StepBox wr ar ⟨k2, s2, c2, n2, e2, f2, x2, y2⟩ p wc → o1 = .int .i64 gv → o2 = .int .u64 av → K1 ⟨#[r0, r1, .slice (some ⟨ob, oo, none⟩) len cop, r3, r4, r5, r6, .pointer (some ⟨b, 0, none⟩), r8, .int .i64 (k : Nat), p, o1, o2, r13, r14, r15, r16, r17, r18, r19, r20, r21, r22, r23, r24, r25, r26, r27, r28, r29, r30, r31, r32, r33, r34, r35, r36, r37, r38, r39, r40, r41, r42, r43, r44, r45, r46, v47, v48, v49, v50, v51, v52, v53, v54, v55, v56, r57, r58, r59, r60, r61, r62, r63, r64, r65, r66, r67, r68, r69, r70, r71, r72, r73, r74, r75, r76, r77, r78, r79, r80, r81, r82, r83, r84, r85, r86, r87, r88, r89, r90, r91, r92, r93, r94, r95, r96, r97, r98, r99, r100, r101, r102, r103, r104, r105, r106, r107, r108, r109, r110, r111, r112, r113, r114, r115, r116, r117, r118, r119, r120, r121, r122, r123, r124, r125, r126, r127, r128, r129, r130, r131, r132, r133, r134, r135, r136, r137, r138, r139, r140, r141, r142, r143, r144, r145, r146, r147, r148, r149, r150, r151, r152, r153, r154, r155, r156, r157, r158, r159, r160, r161, r162, r163, r164, r165, r166, r167, r168, r169, r170, r171, r172, r173, r174, r175, r176, r177, r178, r179, r180, r181, r182, r183, r184, r185, r186, r187, r188, r189, r190, r191, r192], []⟩ wc) :
    Code.wp Try.prog codeRises (Exit.then K1 (fun _ _ _ => False)) ⟨#[r0, r1, .slice (some ⟨ob, oo, none⟩) len cop, r3, r4, r5, r6, .pointer (some ⟨b, 0, none⟩), r8, .int .i64 (k : Nat), r10, r11, r12, r13, r14, r15, r16, r17, r18, r19, r20, r21, r22, r23, r24, r25, r26, r27, r28, r29, r30, r31, r32, r33, r34, r35, r36, r37, r38, r39, r40, r41, r42, r43, r44, r45, r46, r47, r48, r49, r50, r51, r52, r53, r54, r55, r56, r57, r58, r59, r60, r61, r62, r63, r64, r65, r66, r67, r68, r69, r70, r71, r72, r73, r74, r75, r76, r77, r78, r79, r80, r81, r82, r83, r84, r85, r86, r87, r88, r89, r90, r91, r92, r93, r94, r95, r96, r97, r98, r99, r100, r101, r102, r103, r104, r105, r106, r107, r108, r109, r110, r111, r112, r113, r114, r115, r116, r117, r118, r119, r120, r121, r122, r123, r124, r125, r126, r127, r128, r129, r130, r131, r132, r133, r134, r135, r136, r137, r138, r139, r140, r141, r142, r143, r144, r145, r146, r147, r148, r149, r150, r151, r152, r153, r154, r155, r156, r157, r158, r159, r160, r161, r162, r163, r164, r165, r166, r167, r168, r169, r170, r171, r172, r173, r174, r175, r176, r177, r178, r179, r180, r181, r182, r183, r184, r185, r186, r187, r188, r189, r190, r191, r192], []⟩ wr := by
  conv => arg 2; whnf
  obtain ⟨q0, q1, q2, q3, q4, q5, q6, q7, qf⟩ := cells8 hx
  have ql := lt_of_heap hx
  have hob := lt_of_cell g0
  have HRD := Lib.hid hrd
  have HLT := Lib.hid hlt
  have HST := Lib.hid hst
  have HK := Lib.hid hK
  clear hx hrd hlt hst hK
  go_region_with (go_at_call 37; refine (HST.out _ ?_).mono ?_; (first | exact HRD.out | exact HRD.out.fresh _); rintro e w' ⟨ar', cr', he, hr', hfar, hb⟩; obtain rfl : e = .returned (.tuple #[.agg #[.slice ar' k2.length cr', .int .i64 s2, .int .i64 c2, .int .i64 n2, .int .u64 e2, .int .u64 f2, .int .i64 x2, .int .i64 y2], .int .i64 gv, .int .u64 av]) := he; (first | (have hz := zbox hb; obtain ⟨z0, z1, z2, z3, z4, z5, z6, z7, zf⟩ := hz) | skip))
  all_goals
    go_wp2_with fail
    refine HK.out _ _ _ _ _ _ _ _ _ _ _ _ _ _ ?_ rfl rfl
    first | (with_reducible exact step_late8 hr' hfar HLT.out hb) | (with_reducible exact step_early8 hr' hfar HLT.out hb rfl)
noncomputable def codeNever : Code := ((Try.f9.body.bind (regionOf 11)).getD .skip)
set_option maxRecDepth 1000000 in
set_option maxHeartbeats 8000000 in
theorem regionNever {wr : World} {b : Nat} {k1 : List (BitVec 8)} {s1 c1 n1 e1 f1 x1 y1 : Int} {ar : Option Addr} {cr : Nat} {ob oo len cop k : Nat} {kd og ob' oc oa os on : Int} {gv av : Int} {k2 : List (BitVec 8)} {s2 c2 n2 e2 f2 x2 y2 : Int}
    (hx : wr.heap[b]? = some (.cells #[.slice ar k1.length cr, .int .i64 s1, .int .i64 c1, .int .i64 n1, .int .u64 e1, .int .u64 f1, .int .i64 x1, .int .i64 y1] 27 (0, 0))) (hrd : Rd wr ar k1) (hlt : ∀ a, ar = some a → a.block < wr.heap.size) (hk : k < len) (_hlen : len ≤ 9223372036854775807)
    (hst : ∀ (W' : World), Rd W' ar k1 → Calls Try.prog 37 #[.agg #[.slice ar k1.length cr, .int .i64 s1, .int .i64 c1, .int .i64 n1, .int .u64 e1, .int .u64 f1, .int .i64 x1, .int .i64 y1], .agg #[.int .i64 kd, .int .i64 og, .int .i64 ob', .int .u64 oc, .int .u64 oa, .int .i64 os, .int .i64 on]] W' (StepR W' ar ⟨k2, s2, c2, n2, e2, f2, x2, y2⟩ [.int .i64 gv, .int .u64 av]))
    (g0 : wr.cell? ⟨ob, oo + k * 7, none⟩ = some (.int .i64 kd)) (g1 : wr.cell? ⟨ob, oo + k * 7 + 1, none⟩ = some (.int .i64 og)) (g2 : wr.cell? ⟨ob, oo + k * 7 + 2, none⟩ = some (.int .i64 ob')) (g3 : wr.cell? ⟨ob, oo + k * 7 + 3, none⟩ = some (.int .u64 oc)) (g4 : wr.cell? ⟨ob, oo + k * 7 + 4, none⟩ = some (.int .u64 oa)) (g5 : wr.cell? ⟨ob, oo + k * 7 + 5, none⟩ = some (.int .i64 os)) (g6 : wr.cell? ⟨ob, oo + k * 7 + 6, none⟩ = some (.int .i64 on))
    {r0 r1 r3 r4 r5 r6 r7 r8 r10 r11 r13 r14 r15 r16 r17 r18 r19 r20 r21 r22 r23 r24 r25 r26 r27 r28 r29 r30 r31 r32 r33 r34 r35 r36 r37 r38 r39 r40 r41 r42 r43 r44 r45 r46 r47 r48 r49 r50 r51 r52 r53 r54 r55 r56 r57 r58 r59 r60 r61 r62 r63 r64 r65 r66 r67 r68 r69 r70 r71 r72 r73 r74 r75 r76 r77 r78 r79 r80 r81 r82 r83 r84 r85 r86 r87 r88 r89 r90 r91 r92 r93 r94 r95 r96 r97 r98 r99 r100 r101 r102 r103 r104 r105 r106 r107 r108 r109 r110 r111 r112 r113 r114 r115 r116 r117 r118 r119 r120 r121 r122 r123 r124 r125 r126 r127 r128 r129 r130 r131 r132 r133 r134 r135 r136 r137 r138 r139 r140 : Value} {K1 : Act → World → Prop}
    (hK : ∀ (p o1 o2 v49 v50 v51 v52 v53 v54 v55 v56 v57 v58 : Value) (wc : World), StepBox wr ar ⟨k2, s2, c2, n2, e2, f2, x2, y2⟩ p wc → o1 = .int .i64 gv → o2 = .int .u64 av → K1 ⟨#[r0, r1, .slice (some ⟨ob, oo, none⟩) len cop, r3, r4, r5, r6, r7, r8, .pointer (some ⟨b, 0, none⟩), r10, r11, .int .i64 (k : Nat), p, o1, o2, r16, r17, r18, r19, r20, r21, r22, r23, r24, r25, r26, r27, r28, r29, r30, r31, r32, r33, r34, r35, r36, r37, r38, r39, r40, r41, r42, r43, r44, r45, r46, r47, r48, v49, v50, v51, v52, v53, v54, v55, v56, v57, v58, r59, r60, r61, r62, r63, r64, r65, r66, r67, r68, r69, r70, r71, r72, r73, r74, r75, r76, r77, r78, r79, r80, r81, r82, r83, r84, r85, r86, r87, r88, r89, r90, r91, r92, r93, r94, r95, r96, r97, r98, r99, r100, r101, r102, r103, r104, r105, r106, r107, r108, r109, r110, r111, r112, r113, r114, r115, r116, r117, r118, r119, r120, r121, r122, r123, r124, r125, r126, r127, r128, r129, r130, r131, r132, r133, r134, r135, r136, r137, r138, r139, r140], []⟩ wc) :
    Code.wp Try.prog codeNever (Exit.then K1 (fun _ _ _ => False)) ⟨#[r0, r1, .slice (some ⟨ob, oo, none⟩) len cop, r3, r4, r5, r6, r7, r8, .pointer (some ⟨b, 0, none⟩), r10, r11, .int .i64 (k : Nat), r13, r14, r15, r16, r17, r18, r19, r20, r21, r22, r23, r24, r25, r26, r27, r28, r29, r30, r31, r32, r33, r34, r35, r36, r37, r38, r39, r40, r41, r42, r43, r44, r45, r46, r47, r48, r49, r50, r51, r52, r53, r54, r55, r56, r57, r58, r59, r60, r61, r62, r63, r64, r65, r66, r67, r68, r69, r70, r71, r72, r73, r74, r75, r76, r77, r78, r79, r80, r81, r82, r83, r84, r85, r86, r87, r88, r89, r90, r91, r92, r93, r94, r95, r96, r97, r98, r99, r100, r101, r102, r103, r104, r105, r106, r107, r108, r109, r110, r111, r112, r113, r114, r115, r116, r117, r118, r119, r120, r121, r122, r123, r124, r125, r126, r127, r128, r129, r130, r131, r132, r133, r134, r135, r136, r137, r138, r139, r140], []⟩ wr := by
  conv => arg 2; whnf
  obtain ⟨q0, q1, q2, q3, q4, q5, q6, q7, qf⟩ := cells8 hx
  have ql := lt_of_heap hx
  have hob := lt_of_cell g0
  have HRD := Lib.hid hrd
  have HLT := Lib.hid hlt
  have HST := Lib.hid hst
  have HK := Lib.hid hK
  clear hx hrd hlt hst hK
  go_region_with (go_at_call 37; refine (HST.out _ ?_).mono ?_; (first | exact HRD.out | exact HRD.out.fresh _); rintro e w' ⟨ar', cr', he, hr', hfar, hb⟩; obtain rfl : e = .returned (.tuple #[.agg #[.slice ar' k2.length cr', .int .i64 s2, .int .i64 c2, .int .i64 n2, .int .u64 e2, .int .u64 f2, .int .i64 x2, .int .i64 y2], .int .i64 gv, .int .u64 av]) := he; (first | (have hz := zbox hb; obtain ⟨z0, z1, z2, z3, z4, z5, z6, z7, zf⟩ := hz) | skip))
  all_goals
    go_wp2_with fail
    refine HK.out _ _ _ _ _ _ _ _ _ _ _ _ _ _ ?_ rfl rfl
    first | (with_reducible exact step_late8 hr' hfar HLT.out hb) | (with_reducible exact step_early8 hr' hfar HLT.out hb rfl)
noncomputable def codeCeils : Code := ((Try.f10.body.bind (regionOf 10)).getD .skip)
set_option maxRecDepth 1000000 in
set_option maxHeartbeats 8000000 in
theorem regionCeils {wr : World} {b : Nat} {k1 : List (BitVec 8)} {s1 c1 n1 e1 f1 x1 y1 : Int} {ar : Option Addr} {cr : Nat} {ob oo len cop k : Nat} {kd og ob' oc oa os on : Int} {gv av : Int} {k2 : List (BitVec 8)} {s2 c2 n2 e2 f2 x2 y2 : Int}
    (hx : wr.heap[b]? = some (.cells #[.slice ar k1.length cr, .int .i64 s1, .int .i64 c1, .int .i64 n1, .int .u64 e1, .int .u64 f1, .int .i64 x1, .int .i64 y1] 27 (0, 0))) (hrd : Rd wr ar k1) (hlt : ∀ a, ar = some a → a.block < wr.heap.size) (hk : k < len) (_hlen : len ≤ 9223372036854775807)
    (hst : ∀ (W' : World), Rd W' ar k1 → Calls Try.prog 37 #[.agg #[.slice ar k1.length cr, .int .i64 s1, .int .i64 c1, .int .i64 n1, .int .u64 e1, .int .u64 f1, .int .i64 x1, .int .i64 y1], .agg #[.int .i64 kd, .int .i64 og, .int .i64 ob', .int .u64 oc, .int .u64 oa, .int .i64 os, .int .i64 on]] W' (StepR W' ar ⟨k2, s2, c2, n2, e2, f2, x2, y2⟩ [.int .i64 gv, .int .u64 av]))
    (g0 : wr.cell? ⟨ob, oo + k * 7, none⟩ = some (.int .i64 kd)) (g1 : wr.cell? ⟨ob, oo + k * 7 + 1, none⟩ = some (.int .i64 og)) (g2 : wr.cell? ⟨ob, oo + k * 7 + 2, none⟩ = some (.int .i64 ob')) (g3 : wr.cell? ⟨ob, oo + k * 7 + 3, none⟩ = some (.int .u64 oc)) (g4 : wr.cell? ⟨ob, oo + k * 7 + 4, none⟩ = some (.int .u64 oa)) (g5 : wr.cell? ⟨ob, oo + k * 7 + 5, none⟩ = some (.int .i64 os)) (g6 : wr.cell? ⟨ob, oo + k * 7 + 6, none⟩ = some (.int .i64 on))
    {r0 r1 r3 r4 r5 r6 r7 r8 r10 r12 r13 r14 r15 r16 r17 r18 r19 r20 r21 r22 r23 r24 r25 r26 r27 r28 r29 r30 r31 r32 r33 r34 r35 r36 r37 r38 r39 r40 r41 r42 r43 r44 r45 r46 r47 r48 r49 r50 r51 r52 r53 r54 r55 r56 r57 r58 r59 r60 r61 r62 r63 r64 r65 r66 r67 r68 r69 r70 r71 r72 r73 r74 r75 r76 r77 r78 r79 r80 r81 r82 r83 r84 r85 r86 r87 r88 r89 r90 r91 r92 r93 r94 r95 r96 r97 r98 r99 r100 r101 r102 r103 r104 r105 r106 r107 r108 r109 r110 r111 r112 r113 r114 r115 r116 r117 r118 r119 r120 r121 r122 r123 r124 r125 r126 r127 r128 r129 r130 r131 r132 r133 r134 r135 r136 r137 r138 r139 r140 r141 r142 r143 r144 r145 r146 : Value} {K1 : Act → World → Prop}
    (hK : ∀ (p o1 o2 v45 v46 v47 v48 v49 v50 v51 v52 v53 v54 : Value) (wc : World), StepBox wr ar ⟨k2, s2, c2, n2, e2, f2, x2, y2⟩ p wc → o1 = .int .i64 gv → o2 = .int .u64 av → K1 ⟨#[r0, r1, .slice (some ⟨ob, oo, none⟩) len cop, r3, r4, r5, r6, r7, r8, .pointer (some ⟨b, 0, none⟩), r10, .int .i64 (k : Nat), p, o1, o2, r15, r16, r17, r18, r19, r20, r21, r22, r23, r24, r25, r26, r27, r28, r29, r30, r31, r32, r33, r34, r35, r36, r37, r38, r39, r40, r41, r42, r43, r44, v45, v46, v47, v48, v49, v50, v51, v52, v53, v54, r55, r56, r57, r58, r59, r60, r61, r62, r63, r64, r65, r66, r67, r68, r69, r70, r71, r72, r73, r74, r75, r76, r77, r78, r79, r80, r81, r82, r83, r84, r85, r86, r87, r88, r89, r90, r91, r92, r93, r94, r95, r96, r97, r98, r99, r100, r101, r102, r103, r104, r105, r106, r107, r108, r109, r110, r111, r112, r113, r114, r115, r116, r117, r118, r119, r120, r121, r122, r123, r124, r125, r126, r127, r128, r129, r130, r131, r132, r133, r134, r135, r136, r137, r138, r139, r140, r141, r142, r143, r144, r145, r146], []⟩ wc) :
    Code.wp Try.prog codeCeils (Exit.then K1 (fun _ _ _ => False)) ⟨#[r0, r1, .slice (some ⟨ob, oo, none⟩) len cop, r3, r4, r5, r6, r7, r8, .pointer (some ⟨b, 0, none⟩), r10, .int .i64 (k : Nat), r12, r13, r14, r15, r16, r17, r18, r19, r20, r21, r22, r23, r24, r25, r26, r27, r28, r29, r30, r31, r32, r33, r34, r35, r36, r37, r38, r39, r40, r41, r42, r43, r44, r45, r46, r47, r48, r49, r50, r51, r52, r53, r54, r55, r56, r57, r58, r59, r60, r61, r62, r63, r64, r65, r66, r67, r68, r69, r70, r71, r72, r73, r74, r75, r76, r77, r78, r79, r80, r81, r82, r83, r84, r85, r86, r87, r88, r89, r90, r91, r92, r93, r94, r95, r96, r97, r98, r99, r100, r101, r102, r103, r104, r105, r106, r107, r108, r109, r110, r111, r112, r113, r114, r115, r116, r117, r118, r119, r120, r121, r122, r123, r124, r125, r126, r127, r128, r129, r130, r131, r132, r133, r134, r135, r136, r137, r138, r139, r140, r141, r142, r143, r144, r145, r146], []⟩ wr := by
  conv => arg 2; whnf
  obtain ⟨q0, q1, q2, q3, q4, q5, q6, q7, qf⟩ := cells8 hx
  have ql := lt_of_heap hx
  have hob := lt_of_cell g0
  have HRD := Lib.hid hrd
  have HLT := Lib.hid hlt
  have HST := Lib.hid hst
  have HK := Lib.hid hK
  clear hx hrd hlt hst hK
  go_region_with (go_at_call 37; refine (HST.out _ ?_).mono ?_; (first | exact HRD.out | exact HRD.out.fresh _); rintro e w' ⟨ar', cr', he, hr', hfar, hb⟩; obtain rfl : e = .returned (.tuple #[.agg #[.slice ar' k2.length cr', .int .i64 s2, .int .i64 c2, .int .i64 n2, .int .u64 e2, .int .u64 f2, .int .i64 x2, .int .i64 y2], .int .i64 gv, .int .u64 av]) := he; (first | (have hz := zbox hb; obtain ⟨z0, z1, z2, z3, z4, z5, z6, z7, zf⟩ := hz) | skip))
  all_goals
    go_wp2_with fail
    refine HK.out _ _ _ _ _ _ _ _ _ _ _ _ _ _ ?_ rfl rfl
    first | (with_reducible exact step_late8 hr' hfar HLT.out hb) | (with_reducible exact step_early8 hr' hfar HLT.out hb rfl)
end Go.Proofs.Ytihndipgdogebaa
