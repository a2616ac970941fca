/- The walk of BitsReads. -/
import Derived.Test.YtmhcfifenclebaaBitsStep
import Derived.Test.YtmhcfifenclebaaBitsOps
namespace Go.Proofs.Ytmhcfifenclebaa
open Go.RowKit
/-- Two pairs of readers lie apart, and above what was old. -/
structure Apart (B : Nat) (p1 g1 q1 : Nat) (a1 : Option Addr) (p2 g2 q2 : Nat) (a2 : Option Addr) : Prop where
  x1 : ¬ In3 p1 g1 q1 p2 ∧ ¬ In3 p1 g1 q1 g2 ∧ ¬ In3 p1 g1 q1 q2
  y1 : ∀ a, a2 = some a → ¬ In3 p1 g1 q1 a.block
  x2 : ¬ In3 p2 g2 q2 p1 ∧ ¬ In3 p2 g2 q2 g1 ∧ ¬ In3 p2 g2 q2 q1
  y2 : ∀ a, a1 = some a → ¬ In3 p2 g2 q2 a.block
  z1 : ∀ j, In3 p1 g1 q1 j → B ≤ j
  z2 : ∀ j, In3 p2 g2 q2 j → B ≤ j
theorem step_one {B p1 g1 q1 : Nat} {a1 : Option Addr} {c1 : Nat} {l1 : List (BitVec 8)} {p2 g2 q2 : Nat} {a2 : Option Addr} {c2 : Nat} {l2 : List (BitVec 8)} {k2 : Nat} {e2 : Int} {w w' wB : World}
   (A : Apart B p1 g1 q1 a1 p2 g2 q2 a2) (t2 : Two w p2 g2 q2 a2 c2 l2 k2 e2) (hB : Below B wB w) (hw : B ≤ w.heap.size) (h : ∃ k' e', Two w' p1 g1 q1 a1 c1 l1 k' e' ∧ Only (In3 p1 g1 q1) w w') :
   ∃ k1' e1', Two w' p1 g1 q1 a1 c1 l1 k1' e1' ∧ Two w' p2 g2 q2 a2 c2 l2 k2 e2 ∧ Below B wB w' ∧ B ≤ w'.heap.size := by
  obtain ⟨k', e', ht, ho⟩ := h
  exact ⟨k', e', ht, t2.only ho A.x1.1 A.x1.2.1 A.x1.2.2 A.y1, hB.trans (ho.below A.z1 hw), Nat.le_trans hw ho.size⟩
theorem Apart.symm {B p1 g1 q1 : Nat} {a1 : Option Addr} {p2 g2 q2 : Nat} {a2 : Option Addr} (A : Apart B p1 g1 q1 a1 p2 g2 q2 a2) : Apart B p2 g2 q2 a2 p1 g1 q1 a1 := ⟨A.x2, A.y2, A.x1, A.y1, A.z2, A.z1⟩
theorem Own.mset {w : World} {g cap : Nat} {e : TypeId} {l : List (BitVec 8)} (h : Own w g cap e l) (i : Nat) (v : Int) (hv : 0 ≤ v) (hv2 : v < 256) : Own (w.setCell ⟨g, i, none⟩ (.int .u8 v)) g cap e (l.set i (BitVec.ofNat 8 v.toNat)) := by
  have := h.set i (BitVec.ofNat 8 v.toNat)
  rwa [← n8_of v hv hv2] at this
set_option maxHeartbeats 8000000 in
set_option maxRecDepth 100000 in
theorem lawReads (aA : Option Addr) (l1 : List (BitVec 8)) (capA : Nat) (aB : Option Addr) (l2 : List (BitVec 8)) (capB : Nat) (so : Option Addr) (s : List (Int × Int × Bool)) (scap : Nat) (w : World) (hr1 : Rd w aA l1) (hr2 : Rd w aB l2) (hs : Ro w so s) :
   Calls Try.prog 5 #[.slice aA l1.length capA, .slice aB l2.length capB, .slice so s.length scap] w fun e w' => e = .returned (.bool true) ∧ Below w.heap.size w w' := by
  go_enter Try.func5, Try.ntmps5
  go_wp2_with fail
  refine (firstOf w).mono ?_
  rintro e w1 ⟨rfl, hb1⟩
  have HS := Lib.hid (fun (w' : World) (hb : Below w.heap.size w w') => hs.on hb)
  have HA := Lib.hid (fun (w' : World) (hb : Below w.heap.size w w') => hr1.on hb)
  have HB := Lib.hid (fun (w' : World) (hb : Below w.heap.size w w') => hr2.on hb)
  clear hr1 hr2 hs
  by_cases hlen : 65536 < l1.length
  · go_wp2
    go_ret
    exact ⟨rfl, hb1⟩
  by_cases hlen2 : 65536 < l2.length
  · go_wp2
    go_ret
    exact ⟨rfl, hb1⟩
  go_wp2_with fail
  refine (roomOf aA l1 capA w1 (by omega) (HA.out _ hb1)).mono ?_
  rintro e w2 ⟨gx, cx, rfl, hgx, hcx, hx2, hb⟩
  have hB2 := hb1.trans (hb.mono hb1.size)
  have hgx0 : w.heap.size ≤ gx := Nat.le_trans hb1.size hgx
  clear hb hb1 hgx
  go_wp2_with fail
  refine (roomOf aB l2 capB w2 (by omega) (HB.out _ hB2)).mono ?_
  rintro e w3 ⟨gy, cy, rfl, hgy, hcy, hy3, hb⟩
  have hx3 := hx2.below hb hx2.lt
  have hB3 := hB2.trans (hb.mono hB2.size)
  have hgy0 : w.heap.size ≤ gy := Nat.le_trans hB2.size hgy
  have hxy : gx < gy := Nat.lt_of_lt_of_le hx2.lt hgy
  clear hb hB2 hgy hx2
  go_wp2_with fail
  refine (newReader (some ⟨gx, 0, none⟩) l1 _ w3 (by omega) hx3.pre.rd).mono ?_
  rintro e w4 ⟨p1, g1, rfl, hp1, hg1, hR4, hb⟩
  have hx4 := hx3.below hb hx3.lt
  have hy4 := hy3.below hb hy3.lt
  have hB4 := hB3.trans (hb.mono hB3.size)
  have hy3lt := hy3.lt
  have hs3 := hB3.size
  clear hb hB3 hx3 hy3
  go_wp2_with fail
  refine (newReader (some ⟨gy, 0, none⟩) l2 _ w4 (by omega) hy4.pre.rd).mono ?_
  rintro e w5 ⟨p2, g2, rfl, hp2, hg2, hS5, hb⟩
  have hx5 := hx4.below hb hx4.lt
  have hy5 := hy4.below hb hy4.lt
  have hR5 := hR4.below hb
  have hB5 := hB4.trans (hb.mono hB4.size)
  have hb1lt := And.intro hR4.lt hR4.lt'
  have hb2lt := And.intro hS5.lt hS5.lt'
  clear hb hB4 hx4 hy4 hR4
  go_wp2_with fail
  refine (roomOf aA l1 capA w5 (by omega) (HA.out _ hB5)).mono ?_
  rintro e w6 ⟨gx2, cx2, rfl, -, -, hx6', hb⟩
  have hx6 := hx5.below hb hx5.lt
  have hy6 := hy5.below hb hy5.lt
  have hR6 := hR5.below hb
  have hS6 := hS5.below hb
  have hB6 := hB5.trans (hb.mono hB5.size)
  have hs5 : w5.heap.size ≤ w6.heap.size := hb.size
  clear hb hB5 hx5 hy5 hR5 hS5
  go_wp2_with fail
  refine (sameTrue (some ⟨gx, 0, none⟩) (some ⟨gx2, 0, none⟩) (l1 ++ [161#8, 162#8, 163#8]) (l1.length + 3) (l1.length + 3) _ _ w6 (by simp) (by simp) (by omega) hx6.rd hx6'.rd).mono ?_
  rintro e w7 ⟨rfl, hst⟩
  have hx7 := hx6.still hst
  have hy7 := hy6.still hst
  have hR7 := hR6.still hst
  have hS7 := hS6.still hst
  have hB7 := hB6.trans ((hst.below _).mono hB6.size)
  have hs6 : w5.heap.size ≤ w7.heap.size := Nat.le_trans hs5 (hst.below w6.heap.size).size
  clear hst hB6 hx6 hy6 hR6 hS6 hs5 hx6'
  go_wp2_with fail
  refine (roomOf aB l2 capB w7 (by omega) (HB.out _ hB7)).mono ?_
  rintro e w8 ⟨gy2, cy2, rfl, -, -, hy8', hb⟩
  have hx8 := hx7.below hb hx7.lt
  have hy8 := hy7.below hb hy7.lt
  have hR8 := hR7.below hb
  have hS8 := hS7.below hb
  have hB8 := hB7.trans (hb.mono hB7.size)
  have hs8 : w5.heap.size ≤ w8.heap.size := Nat.le_trans hs6 hb.size
  clear hb hB7 hx7 hy7 hR7 hS7 hs6
  go_wp2_with fail
  refine (sameTrue (some ⟨gy, 0, none⟩) (some ⟨gy2, 0, none⟩) (l2 ++ [161#8, 162#8, 163#8]) (l2.length + 3) (l2.length + 3) _ _ w8 (by simp) (by simp) (by omega) hy8.rd hy8'.rd).mono ?_
  rintro e w9 ⟨rfl, hst⟩
  have hx9 := hx8.still hst
  have hy9 := hy8.still hst
  have hR9 := hR8.still hst
  have hS9 := hS8.still hst
  have hB9 := hB8.trans ((hst.below _).mono hB8.size)
  have hs9 : w5.heap.size ≤ w9.heap.size := Nat.le_trans hs8 (hst.below w8.heap.size).size
  clear hst hB8 hx8 hy8 hR8 hS8 hs8 hy8'
  have K9 : Hid (Own w9 gx cx 5 (l1 ++ [161#8, 162#8, 163#8]) ∧ Own w9 gy cy 5 (l2 ++ [161#8, 162#8, 163#8]) ∧ Rdr w9 p1 g1 l1 0 0 ∧ Rdr w9 p2 g2 l2 0 0 ∧ Below w.heap.size w w9) := ⟨hx9, hy9, hR9, hS9, hB9⟩
  clear hx9 hy9 hR9 hS9 hB9
  go_wp2_with fail
  go_loopw [14] (fun i wr => ∃ (j : Nat) (m : List (BitVec 8)), j ≤ l1.length + 3 ∧ m.length = l1.length + 3 ∧ i = .int .i64 j ∧ Own wr gx cx 5 m ∧ Only (fun k => k = gx) w9 wr) (fun i _ => l1.length + 3 - (intOf i).toNat)
  case atStart => exact ⟨0, _, Nat.zero_le _, by simp, rfl, K9.out.1, Only.refl _ _⟩
  case round =>
    obtain ⟨j, m, hj, hm, rfl, hO, ho⟩ := hrel
    by_cases hlt : j < l1.length + 3
    · have hcell := hO.cell j (by omega)
      have hfree := hO.free j
      have HO := Lib.hid (hO.mset j 238 (by omega) (by omega))
      have ho2 := ho.trans (Only.setCell wr gx j (.int .u8 238))
      clear hO ho
      go_wp2
      go_roundw
      case rel => exact ⟨j + 1, _, by omega, by simpa using hm, by go_num, HO.out, ho2⟩
      case measure => simp [intOf]; omega
    · obtain rfl : j = l1.length + 3 := by omega
      have hy10 := K9.out.2.1.only ho (by omega)
      have hR10 := K9.out.2.2.1.only ho (by omega) (by omega)
      have hS10 := K9.out.2.2.2.1.only ho (by omega) (by omega)
      have hB10 := K9.out.2.2.2.2.trans (ho.below (fun _ h => by omega) K9.out.2.2.2.2.size)
      have hs10 : w5.heap.size ≤ wr.heap.size := Nat.le_trans hs9 ho.size
      clear hO ho hs9 hm hlt hj K9
      obtain ⟨wa, hwa⟩ : ∃ wa : World, wa = wr := ⟨_, rfl⟩
      rw [← hwa] at hy10 hR10 hS10 hB10 hs10 ⊢
      clear hwa
      have K : Hid (Own wa gy cy 5 (l2 ++ [161#8, 162#8, 163#8]) ∧ Rdr wa p1 g1 l1 0 0 ∧ Rdr wa p2 g2 l2 0 0 ∧ Below w.heap.size w wa) := ⟨hy10, hR10, hS10, hB10⟩
      clear hy10 hR10 hS10 hB10
      go_wp2_with fail
      go_loopw [15] (fun i wr => ∃ (j : Nat) (m : List (BitVec 8)), j ≤ l2.length + 3 ∧ m.length = l2.length + 3 ∧ i = .int .i64 j ∧ Own wr gy cy 5 m ∧ Only (fun k => k = gy) wa wr) (fun i _ => l2.length + 3 - (intOf i).toNat)
      case atStart => exact ⟨0, _, Nat.zero_le _, by simp, rfl, K.out.1, Only.refl _ _⟩
      case round =>
        obtain ⟨j, m, hj, hm, rfl, hO, ho⟩ := hrel
        by_cases hlt : j < l2.length + 3
        · have hcell := hO.cell j (by omega)
          have hfree := hO.free j
          have HO := Lib.hid (hO.mset j 17 (by omega) (by omega))
          have ho2 := ho.trans (Only.setCell wr gy j (.int .u8 17))
          clear hO ho
          go_wp2
          go_roundw
          case rel => exact ⟨j + 1, _, by omega, by simpa using hm, by go_num, HO.out, ho2⟩
          case measure => simp [intOf]; omega
        · obtain rfl : j = l2.length + 3 := by omega
          have hR11 := K.out.2.1.only ho (by omega) (by omega)
          have hS11 := K.out.2.2.1.only ho (by omega) (by omega)
          have hB11 := K.out.2.2.2.trans (ho.below (fun _ h => by omega) K.out.2.2.2.size)
          have hs11 : w5.heap.size ≤ wr.heap.size := Nat.le_trans hs10 ho.size
          clear hO ho hs10 hm hlt hj K
          obtain ⟨wb, hwb⟩ : ∃ wb : World, wb = wr := ⟨_, rfl⟩
          rw [← hwb] at hR11 hS11 hB11 hs11 ⊢
          clear hwb
          go_wp2_with fail
          refine (refNew aA l1 capA wb (by omega) (HA.out _ hB11)).mono ?_
          rintro e w12 ⟨q1, a1, c1, rfl, hq1, hD12, hd1, hb⟩
          have hR12 := hR11.below hb
          have hS12 := hS11.below hb
          have hB12 := hB11.trans (hb.mono hB11.size)
          have hs12 := hB11.size
          clear hb hB11 hR11 hS11
          go_wp2_with fail
          refine (refNew aB l2 capB w12 (by omega) (HB.out _ hB12)).mono ?_
          rintro e w13 ⟨q2, a2, c2, rfl, hq2, hE13, hd2, hb⟩
          have hR13 := hR12.below hb
          have hS13 := hS12.below hb
          have hD13 := hD12.below hb
          have hB13 := hB12.trans (hb.mono hB12.size)
          have hq1lt := hD12.lt
          have ha1 : ∀ a, a1 = some a → wb.heap.size ≤ a.block ∧ a.block < w12.heap.size := fun a x => ⟨hd1 a x, (hD12.old a x).2⟩
          have A : Apart w.heap.size p1 g1 q1 a1 p2 g2 q2 a2 := by
            refine ⟨⟨?_, ?_, ?_⟩, fun a x => ?_, ⟨?_, ?_, ?_⟩, fun a x => ?_, fun j hj => ?_, fun j hj => ?_⟩
            · unfold In3; omega
            · unfold In3; omega
            · unfold In3; omega
            · have := hd2 a x; unfold In3; omega
            · unfold In3; omega
            · unfold In3; omega
            · unfold In3; omega
            · have := ha1 a x; unfold In3; omega
            · unfold In3 at hj; omega
            · unfold In3 at hj; omega
          have T1 : Two w13 p1 g1 q1 a1 c1 l1 0 0 := ⟨hR13, hD13, by omega, by omega, fun a x => by have := ha1 a x; omega⟩
          have T2 : Two w13 p2 g2 q2 a2 c2 l2 0 0 := ⟨hS13, hE13, by omega, by omega, fun a x => by have := hd2 a x; omega⟩
          have hsz : w.heap.size ≤ w13.heap.size := hB13.size
          clear hR12 hS12 hD12 hB12 hb hR13 hS13 hD13 hE13 hd1 hd2 ha1 hq1lt hq1 hq2 hs12 hs11 hb1lt hb2lt hp1 hg1 hp2 hg2 hs3 hy3lt hxy hgx0 hgy0 hcx hcy HA HB
          go_wp2_with fail
          go_loopw [18] (fun i wr => ∃ (j k1 k2 : Nat) (e1 e2 : Int), j ≤ 300 ∧ i = .int .i64 j ∧ Two wr p1 g1 q1 a1 c1 l1 k1 e1 ∧ Two wr p2 g2 q2 a2 c2 l2 k2 e2 ∧ Below w.heap.size w wr ∧ w.heap.size ≤ wr.heap.size) (fun i _ => 300 - (intOf i).toNat)
          case atStart => exact ⟨0, 0, 0, 0, 0, by omega, rfl, T1, T2, hB13, hsz⟩
          case round =>
            obtain ⟨j, k1, k2, e1, e2, hj, rfl, t1, t2, hB, hz⟩ := hrel
            clear T1 T2 hB13 hsz
            by_cases hgo : j < s.length ∧ j < 300
            · obtain ⟨hlt, hlt2⟩ := hgo
              have hx0 := HS.out wr hB
              rcases hx0 with rfl | ⟨b, o, rfl, hc⟩
              · simp at hlt
              obtain ⟨c0, c1', c2'⟩ := hc j hlt
              obtain ⟨kk, hkk⟩ : ∃ kk, (s.getD j (0, 0, false)).1 = kk := ⟨_, rfl⟩
              obtain ⟨nn, hnn⟩ : ∃ nn, (s.getD j (0, 0, false)).2.1 = nn := ⟨_, rfl⟩
              obtain ⟨ss, hss⟩ : ∃ ss, (s.getD j (0, 0, false)).2.2 = ss := ⟨_, rfl⟩
              rw [hkk] at c0
              rw [hnn] at c1'
              rw [hss] at c2'
              clear hc hkk hnn hss
              cases ss with
              | false =>
                go_wp2_with fail
                refine (stepOf t1 (by omega) kk nn false).mono ?_
                rintro x v0 ⟨rfl, hres⟩
                obtain ⟨ka0, ea0, s0, o0, b0, z0⟩ := step_one A t2 hB hz hres
                clear hres t1 t2 hB hz c0 c1' c2'
                go_wp2_with fail
                refine (stepOf s0 (by omega) 8 0 false).mono ?_
                rintro x v1 ⟨rfl, hres⟩
                obtain ⟨ka1, ea1, s1, o1, b1, z1⟩ := step_one A o0 b0 z0 hres
                clear hres s0 o0 b0 z0
                go_wp2_with fail
                refine (stepOf s1 (by omega) 7 0 false).mono ?_
                rintro x v2 ⟨rfl, hres⟩
                obtain ⟨ka2, ea2, s2, o2, b2, z2⟩ := step_one A o1 b1 z1 hres
                clear hres s1 o1 b1 z1
                go_wp2
                go_roundw
                case rel => exact ⟨j + 1, ka2, _, ea2, _, by omega, by go_num, s2, o2, b2, z2⟩
                case measure => simp [intOf]; omega
              | true =>
                go_wp2_with fail
                refine (stepOf t2 (by omega) kk nn true).mono ?_
                rintro x v0 ⟨rfl, hres⟩
                obtain ⟨ka0, ea0, s0, o0, b0, z0⟩ := step_one A.symm t1 hB hz hres
                clear hres t2 t1 hB hz c0 c1' c2'
                go_wp2_with fail
                refine (stepOf s0 (by omega) 8 0 false).mono ?_
                rintro x v1 ⟨rfl, hres⟩
                obtain ⟨ka1, ea1, s1, o1, b1, z1⟩ := step_one A.symm o0 b0 z0 hres
                clear hres s0 o0 b0 z0
                go_wp2_with fail
                refine (stepOf s1 (by omega) 7 0 false).mono ?_
                rintro x v2 ⟨rfl, hres⟩
                obtain ⟨ka2, ea2, s2, o2, b2, z2⟩ := step_one A.symm o1 b1 z1 hres
                clear hres s1 o1 b1 z1
                go_wp2
                go_roundw
                case rel => exact ⟨j + 1, _, ka2, _, ea2, by omega, by go_num, o2, s2, b2, z2⟩
                case measure => simp [intOf]; omega
            · have hgo2 : j < s.length → ¬ j < 300 := fun a b => hgo ⟨a, b⟩
              by_cases hlt : j < s.length
              · have hlt2 := hgo2 hlt
                clear hgo hgo2
                go_wp2_with fail
                refine (stepOf t1 (by omega) 8 0 false).mono ?_
                rintro x v0 ⟨rfl, hres⟩
                obtain ⟨ka0, ea0, s0, o0, b0, z0⟩ := step_one A t2 hB hz hres
                clear hres t1 t2 hB hz
                go_wp2_with fail
                refine (stepOf o0 (by omega) 8 0 false).mono ?_
                rintro x v1 ⟨rfl, hres⟩
                obtain ⟨ka1, ea1, s1, o1, b1, z1⟩ := step_one A.symm s0 b0 z0 hres
                clear hres s0 o0 b0 z0 s1 o1
                go_wp2
                go_ret
                exact ⟨rfl, b1⟩
              · clear hgo hgo2
                go_wp2_with fail
                refine (stepOf t1 (by omega) 8 0 false).mono ?_
                rintro x v0 ⟨rfl, hres⟩
                obtain ⟨ka0, ea0, s0, o0, b0, z0⟩ := step_one A t2 hB hz hres
                clear hres t1 t2 hB hz
                go_wp2_with fail
                refine (stepOf o0 (by omega) 8 0 false).mono ?_
                rintro x v1 ⟨rfl, hres⟩
                obtain ⟨ka1, ea1, s1, o1, b1, z1⟩ := step_one A.symm s0 b0 z0 hres
                clear hres s0 o0 b0 z0 s1 o1
                go_wp2
                go_ret
                exact ⟨rfl, b1⟩
end Go.Proofs.Ytmhcfifenclebaa
