/- SameStamp, SameLane. -/
import Derived.Test.YtihndipgdogebaaLane2
import Derived.Test.YtihndipgdogebaaSame
namespace Go.Proofs.Ytihndipgdogebaa
open Go.RowKit
theorem fresh2 (w : World) (o o' : Obj) : Below w.heap.size w ((w.alloc o).alloc o') := ((Below.refl _ w).alloc (Nat.le_refl _) o).alloc (by show _ ≤ (w.heap.push o).size; simp) o'
theorem box2_cell {w w2 : World} {cs1 cs2 : Array Value} {t1 t2 : TypeId} {n : Nat} (hb : Below (((w.alloc (.cells cs1 t1)).alloc (.cells cs2 t2)).drewN n).heap.size (((w.alloc (.cells cs1 t1)).alloc (.cells cs2 t2)).drewN n) w2) (i : Nat) :
    w2.cell? ⟨w.heap.size, i, none⟩ = cs1[i]? ∧ w2.cell? ⟨w.heap.size + 1, i, none⟩ = cs2[i]? := by
  have hs : (w.alloc (.cells cs1 t1)).heap.size = w.heap.size + 1 := by show (w.heap.push _).size = _; simp
  have hs2 : (((w.alloc (.cells cs1 t1)).alloc (.cells cs2 t2)).drewN n).heap.size = w.heap.size + 2 := by
    show ((w.alloc (.cells cs1 t1)).heap.push _).size = _; simp [hs]
  rw [hs2] at hb
  constructor
  · rw [cell_of_row w2 w.heap.size i cs1 t1 (0, 0)]
    rw [hb.block _ (by omega)]
    show ((w.alloc (.cells cs1 t1)).alloc (.cells cs2 t2)).heap[w.heap.size]? = _
    rw [alloc_old _ _ _ (by omega)]
    exact heap_alloc_new w _
  · rw [cell_of_row w2 (w.heap.size + 1) i cs2 t2 (0, 0)]
    rw [hb.block _ (by omega)]
    show ((w.alloc (.cells cs1 t1)).alloc (.cells cs2 t2)).heap[w.heap.size + 1]? = _
    rw [← hs]
    exact heap_alloc_new _ _
theorem sameStamp (a b c d : Int) (w : World) : Calls Try.prog 48 #[.agg #[.int .i64 a, .int .i64 b], .agg #[.int .i64 c, .int .i64 d]] w fun e w' => e = .returned (.bool (a == c && b == d)) ∧ Below w.heap.size w w' := by
  by_cases h : a = c
  · have hb : (a == c) = true := beq_iff_eq.2 h
    rw [hb, Bool.true_and]
    clear h
    go_enter Try.func48, Try.ntmps48
    go_wp2
    go_ret
    exact ⟨rfl, fresh2 _ _ _⟩
  · have hb : (a == c) = false := beq_eq_false_iff_ne.2 h
    rw [hb, Bool.false_and]
    clear h
    go_enter Try.func48, Try.ntmps48
    go_wp2
    go_ret
    exact ⟨rfl, fresh2 _ _ _⟩
def sameL (A B : Ln) : Bool := (A.key == B.key) && ((A.sec == B.sec && A.nano == B.nano) && ((A.side == B.side) && ((A.cur == B.cur) && ((A.next == B.next) && ((A.send == B.send) && (A.ceil == B.ceil))))))
theorem sameL_refl (A : Ln) : sameL A A = true := by simp [sameL]
set_option maxHeartbeats 4000000 in
theorem sameLane (A B : Ln) (aoA aoB : Option Addr) (capA capB : Nat) (w : World) (hA : A.key.length ≤ 281474976710656) (hB : B.key.length ≤ 281474976710656) (hrA : Rd w aoA A.key) (hrB : Rd w aoB B.key) :
   Calls Try.prog 19 #[A.val aoA capA, B.val aoB capB] w fun e w' => e = .returned (.bool (sameL A B)) ∧ Below w.heap.size w w' := by
  obtain ⟨key, side, cur, next, send, ceil, sec, nano⟩ := A
  obtain ⟨key', side', cur', next', send', ceil', sec', nano'⟩ := B
  unfold Ln.val
  simp only at hA hB hrA hrB ⊢
  obtain ⟨kb, hkb⟩ : ∃ kb, (key == key') = kb := ⟨_, rfl⟩
  obtain ⟨sb, hsb⟩ : ∃ sb, (sec == sec' && nano == nano') = sb := ⟨_, rfl⟩
  cases kb with
  | false =>
    have hb : sameL ⟨key, side, cur, next, send, ceil, sec, nano⟩ ⟨key', side', cur', next', send', ceil', sec', nano'⟩ = false := by unfold sameL; rw [hkb, hsb]; simp
    rw [hb]
    have HK := Lib.hid hkb
    have HS := Lib.hid hsb
    clear hb hkb hsb
    go_enter Try.func19, Try.ntmps19
    go_wp2_with fail
    have hr1 := hrA.on (fresh2 w (.cells #[.slice aoA key.length capA, .int .i64 side, .int .i64 cur, .int .i64 next, .int .u64 send, .int .u64 ceil, .int .i64 sec, .int .i64 nano] 27 (0, 0)) (.cells #[.slice aoB key'.length capB, .int .i64 side', .int .i64 cur', .int .i64 next', .int .u64 send', .int .u64 ceil', .int .i64 sec', .int .i64 nano'] 27 (0, 0)))
    have hr2 := hrB.on (fresh2 w (.cells #[.slice aoA key.length capA, .int .i64 side, .int .i64 cur, .int .i64 next, .int .u64 send, .int .u64 ceil, .int .i64 sec, .int .i64 nano] 27 (0, 0)) (.cells #[.slice aoB key'.length capB, .int .i64 side', .int .i64 cur', .int .i64 next', .int .u64 send', .int .u64 ceil', .int .i64 sec', .int .i64 nano'] 27 (0, 0)))
    refine (sameBytes aoA aoB key key' capA capB _ hA hB hr1 hr2).mono ?_
    rintro e w1 ⟨rfl, nd, rfl⟩
    rw [HK.out]
    clear hr1 hr2 hrA hrB
    go_wp2_with fail
    refine (sameStamp sec nano sec' nano' _).mono ?_
    rintro e w2 ⟨rfl, hb⟩
    rw [HS.out]
    have hB := (fresh2 w _ _).trans ((below_drewN (Below.refl _ _) nd).trans (hb.mono (by show _ ≤ (((w.alloc _).alloc _)).heap.size; exact (fresh2 w _ _).size)))
    obtain ⟨a1, b1⟩ := box2_cell hb 1
    obtain ⟨a2, b2⟩ := box2_cell hb 2
    obtain ⟨a3, b3⟩ := box2_cell hb 3
    obtain ⟨a4, b4⟩ := box2_cell hb 4
    obtain ⟨a5, b5⟩ := box2_cell hb 5
    clear hb
    go_wp2
    all_goals go_ret
    all_goals exact ⟨rfl, hB⟩
  | true =>
    cases sb with
    | false =>
      have hb : sameL ⟨key, side, cur, next, send, ceil, sec, nano⟩ ⟨key', side', cur', next', send', ceil', sec', nano'⟩ = false := by unfold sameL; rw [hkb, hsb]; simp
      rw [hb]
      have HK := Lib.hid hkb
      have HS := Lib.hid hsb
      clear hb hkb hsb
      go_enter Try.func19, Try.ntmps19
      go_wp2_with fail
      have hr1 := hrA.on (fresh2 w (.cells #[.slice aoA key.length capA, .int .i64 side, .int .i64 cur, .int .i64 next, .int .u64 send, .int .u64 ceil, .int .i64 sec, .int .i64 nano] 27 (0, 0)) (.cells #[.slice aoB key'.length capB, .int .i64 side', .int .i64 cur', .int .i64 next', .int .u64 send', .int .u64 ceil', .int .i64 sec', .int .i64 nano'] 27 (0, 0)))
      have hr2 := hrB.on (fresh2 w (.cells #[.slice aoA key.length capA, .int .i64 side, .int .i64 cur, .int .i64 next, .int .u64 send, .int .u64 ceil, .int .i64 sec, .int .i64 nano] 27 (0, 0)) (.cells #[.slice aoB key'.length capB, .int .i64 side', .int .i64 cur', .int .i64 next', .int .u64 send', .int .u64 ceil', .int .i64 sec', .int .i64 nano'] 27 (0, 0)))
      refine (sameBytes aoA aoB key key' capA capB _ hA hB hr1 hr2).mono ?_
      rintro e w1 ⟨rfl, nd, rfl⟩
      rw [HK.out]
      clear hr1 hr2 hrA hrB
      go_wp2_with fail
      refine (sameStamp sec nano sec' nano' _).mono ?_
      rintro e w2 ⟨rfl, hb⟩
      rw [HS.out]
      have hB := (fresh2 w _ _).trans ((below_drewN (Below.refl _ _) nd).trans (hb.mono (by show _ ≤ (((w.alloc _).alloc _)).heap.size; exact (fresh2 w _ _).size)))
      obtain ⟨a1, b1⟩ := box2_cell hb 1
      obtain ⟨a2, b2⟩ := box2_cell hb 2
      obtain ⟨a3, b3⟩ := box2_cell hb 3
      obtain ⟨a4, b4⟩ := box2_cell hb 4
      obtain ⟨a5, b5⟩ := box2_cell hb 5
      clear hb
      go_wp2
      all_goals go_ret
      all_goals exact ⟨rfl, hB⟩
    | true =>
      by_cases h0 : side = side'
      · have e0 : (side == side') = true := beq_iff_eq.2 h0
        clear h0
        by_cases h1 : cur = cur'
        · have e1 : (cur == cur') = true := beq_iff_eq.2 h1
          clear h1
          by_cases h2 : next = next'
          · have e2 : (next == next') = true := beq_iff_eq.2 h2
            clear h2
            by_cases h3 : send = send'
            · have e3 : (send == send') = true := beq_iff_eq.2 h3
              clear h3
              have hb : sameL ⟨key, side, cur, next, send, ceil, sec, nano⟩ ⟨key', side', cur', next', send', ceil', sec', nano'⟩ = (ceil == ceil') := by unfold sameL; rw [hkb, hsb]; simp [e0, e1, e2, e3]
              rw [hb]
              have HK := Lib.hid hkb
              have HS := Lib.hid hsb
              clear hb hkb hsb
              go_enter Try.func19, Try.ntmps19
              go_wp2_with fail
              have hr1 := hrA.on (fresh2 w (.cells #[.slice aoA key.length capA, .int .i64 side, .int .i64 cur, .int .i64 next, .int .u64 send, .int .u64 ceil, .int .i64 sec, .int .i64 nano] 27 (0, 0)) (.cells #[.slice aoB key'.length capB, .int .i64 side', .int .i64 cur', .int .i64 next', .int .u64 send', .int .u64 ceil', .int .i64 sec', .int .i64 nano'] 27 (0, 0)))
              have hr2 := hrB.on (fresh2 w (.cells #[.slice aoA key.length capA, .int .i64 side, .int .i64 cur, .int .i64 next, .int .u64 send, .int .u64 ceil, .int .i64 sec, .int .i64 nano] 27 (0, 0)) (.cells #[.slice aoB key'.length capB, .int .i64 side', .int .i64 cur', .int .i64 next', .int .u64 send', .int .u64 ceil', .int .i64 sec', .int .i64 nano'] 27 (0, 0)))
              refine (sameBytes aoA aoB key key' capA capB _ hA hB hr1 hr2).mono ?_
              rintro e w1 ⟨rfl, nd, rfl⟩
              rw [HK.out]
              clear hr1 hr2 hrA hrB
              go_wp2_with fail
              refine (sameStamp sec nano sec' nano' _).mono ?_
              rintro e w2 ⟨rfl, hb⟩
              rw [HS.out]
              have hB := (fresh2 w _ _).trans ((below_drewN (Below.refl _ _) nd).trans (hb.mono (by show _ ≤ (((w.alloc _).alloc _)).heap.size; exact (fresh2 w _ _).size)))
              obtain ⟨a1, b1⟩ := box2_cell hb 1
              obtain ⟨a2, b2⟩ := box2_cell hb 2
              obtain ⟨a3, b3⟩ := box2_cell hb 3
              obtain ⟨a4, b4⟩ := box2_cell hb 4
              obtain ⟨a5, b5⟩ := box2_cell hb 5
              clear hb
              go_wp2
              all_goals go_ret
              all_goals exact ⟨rfl, hB⟩
            · have e3 : (send == send') = false := beq_eq_false_iff_ne.2 h3
              clear h3
              have hb : sameL ⟨key, side, cur, next, send, ceil, sec, nano⟩ ⟨key', side', cur', next', send', ceil', sec', nano'⟩ = false := by unfold sameL; rw [hkb, hsb]; simp [e0, e1, e2, e3]
              rw [hb]
              have HK := Lib.hid hkb
              have HS := Lib.hid hsb
              clear hb hkb hsb
              go_enter Try.func19, Try.ntmps19
              go_wp2_with fail
              have hr1 := hrA.on (fresh2 w (.cells #[.slice aoA key.length capA, .int .i64 side, .int .i64 cur, .int .i64 next, .int .u64 send, .int .u64 ceil, .int .i64 sec, .int .i64 nano] 27 (0, 0)) (.cells #[.slice aoB key'.length capB, .int .i64 side', .int .i64 cur', .int .i64 next', .int .u64 send', .int .u64 ceil', .int .i64 sec', .int .i64 nano'] 27 (0, 0)))
              have hr2 := hrB.on (fresh2 w (.cells #[.slice aoA key.length capA, .int .i64 side, .int .i64 cur, .int .i64 next, .int .u64 send, .int .u64 ceil, .int .i64 sec, .int .i64 nano] 27 (0, 0)) (.cells #[.slice aoB key'.length capB, .int .i64 side', .int .i64 cur', .int .i64 next', .int .u64 send', .int .u64 ceil', .int .i64 sec', .int .i64 nano'] 27 (0, 0)))
              refine (sameBytes aoA aoB key key' capA capB _ hA hB hr1 hr2).mono ?_
              rintro e w1 ⟨rfl, nd, rfl⟩
              rw [HK.out]
              clear hr1 hr2 hrA hrB
              go_wp2_with fail
              refine (sameStamp sec nano sec' nano' _).mono ?_
              rintro e w2 ⟨rfl, hb⟩
              rw [HS.out]
              have hB := (fresh2 w _ _).trans ((below_drewN (Below.refl _ _) nd).trans (hb.mono (by show _ ≤ (((w.alloc _).alloc _)).heap.size; exact (fresh2 w _ _).size)))
              obtain ⟨a1, b1⟩ := box2_cell hb 1
              obtain ⟨a2, b2⟩ := box2_cell hb 2
              obtain ⟨a3, b3⟩ := box2_cell hb 3
              obtain ⟨a4, b4⟩ := box2_cell hb 4
              obtain ⟨a5, b5⟩ := box2_cell hb 5
              clear hb
              go_wp2
              all_goals go_ret
              all_goals exact ⟨rfl, hB⟩
          · have e2 : (next == next') = false := beq_eq_false_iff_ne.2 h2
            clear h2
            have hb : sameL ⟨key, side, cur, next, send, ceil, sec, nano⟩ ⟨key', side', cur', next', send', ceil', sec', nano'⟩ = false := by unfold sameL; rw [hkb, hsb]; simp [e0, e1, e2]
            rw [hb]
            have HK := Lib.hid hkb
            have HS := Lib.hid hsb
            clear hb hkb hsb
            go_enter Try.func19, Try.ntmps19
            go_wp2_with fail
            have hr1 := hrA.on (fresh2 w (.cells #[.slice aoA key.length capA, .int .i64 side, .int .i64 cur, .int .i64 next, .int .u64 send, .int .u64 ceil, .int .i64 sec, .int .i64 nano] 27 (0, 0)) (.cells #[.slice aoB key'.length capB, .int .i64 side', .int .i64 cur', .int .i64 next', .int .u64 send', .int .u64 ceil', .int .i64 sec', .int .i64 nano'] 27 (0, 0)))
            have hr2 := hrB.on (fresh2 w (.cells #[.slice aoA key.length capA, .int .i64 side, .int .i64 cur, .int .i64 next, .int .u64 send, .int .u64 ceil, .int .i64 sec, .int .i64 nano] 27 (0, 0)) (.cells #[.slice aoB key'.length capB, .int .i64 side', .int .i64 cur', .int .i64 next', .int .u64 send', .int .u64 ceil', .int .i64 sec', .int .i64 nano'] 27 (0, 0)))
            refine (sameBytes aoA aoB key key' capA capB _ hA hB hr1 hr2).mono ?_
            rintro e w1 ⟨rfl, nd, rfl⟩
            rw [HK.out]
            clear hr1 hr2 hrA hrB
            go_wp2_with fail
            refine (sameStamp sec nano sec' nano' _).mono ?_
            rintro e w2 ⟨rfl, hb⟩
            rw [HS.out]
            have hB := (fresh2 w _ _).trans ((below_drewN (Below.refl _ _) nd).trans (hb.mono (by show _ ≤ (((w.alloc _).alloc _)).heap.size; exact (fresh2 w _ _).size)))
            obtain ⟨a1, b1⟩ := box2_cell hb 1
            obtain ⟨a2, b2⟩ := box2_cell hb 2
            obtain ⟨a3, b3⟩ := box2_cell hb 3
            obtain ⟨a4, b4⟩ := box2_cell hb 4
            obtain ⟨a5, b5⟩ := box2_cell hb 5
            clear hb
            go_wp2
            all_goals go_ret
            all_goals exact ⟨rfl, hB⟩
        · have e1 : (cur == cur') = false := beq_eq_false_iff_ne.2 h1
          clear h1
          have hb : sameL ⟨key, side, cur, next, send, ceil, sec, nano⟩ ⟨key', side', cur', next', send', ceil', sec', nano'⟩ = false := by unfold sameL; rw [hkb, hsb]; simp [e0, e1]
          rw [hb]
          have HK := Lib.hid hkb
          have HS := Lib.hid hsb
          clear hb hkb hsb
          go_enter Try.func19, Try.ntmps19
          go_wp2_with fail
          have hr1 := hrA.on (fresh2 w (.cells #[.slice aoA key.length capA, .int .i64 side, .int .i64 cur, .int .i64 next, .int .u64 send, .int .u64 ceil, .int .i64 sec, .int .i64 nano] 27 (0, 0)) (.cells #[.slice aoB key'.length capB, .int .i64 side', .int .i64 cur', .int .i64 next', .int .u64 send', .int .u64 ceil', .int .i64 sec', .int .i64 nano'] 27 (0, 0)))
          have hr2 := hrB.on (fresh2 w (.cells #[.slice aoA key.length capA, .int .i64 side, .int .i64 cur, .int .i64 next, .int .u64 send, .int .u64 ceil, .int .i64 sec, .int .i64 nano] 27 (0, 0)) (.cells #[.slice aoB key'.length capB, .int .i64 side', .int .i64 cur', .int .i64 next', .int .u64 send', .int .u64 ceil', .int .i64 sec', .int .i64 nano'] 27 (0, 0)))
          refine (sameBytes aoA aoB key key' capA capB _ hA hB hr1 hr2).mono ?_
          rintro e w1 ⟨rfl, nd, rfl⟩
          rw [HK.out]
          clear hr1 hr2 hrA hrB
          go_wp2_with fail
          refine (sameStamp sec nano sec' nano' _).mono ?_
          rintro e w2 ⟨rfl, hb⟩
          rw [HS.out]
          have hB := (fresh2 w _ _).trans ((below_drewN (Below.refl _ _) nd).trans (hb.mono (by show _ ≤ (((w.alloc _).alloc _)).heap.size; exact (fresh2 w _ _).size)))
          obtain ⟨a1, b1⟩ := box2_cell hb 1
          obtain ⟨a2, b2⟩ := box2_cell hb 2
          obtain ⟨a3, b3⟩ := box2_cell hb 3
          obtain ⟨a4, b4⟩ := box2_cell hb 4
          obtain ⟨a5, b5⟩ := box2_cell hb 5
          clear hb
          go_wp2
          all_goals go_ret
          all_goals exact ⟨rfl, hB⟩
      · have e0 : (side == side') = false := beq_eq_false_iff_ne.2 h0
        clear h0
        have hb : sameL ⟨key, side, cur, next, send, ceil, sec, nano⟩ ⟨key', side', cur', next', send', ceil', sec', nano'⟩ = false := by unfold sameL; rw [hkb, hsb]; simp [e0]
        rw [hb]
        have HK := Lib.hid hkb
        have HS := Lib.hid hsb
        clear hb hkb hsb
        go_enter Try.func19, Try.ntmps19
        go_wp2_with fail
        have hr1 := hrA.on (fresh2 w (.cells #[.slice aoA key.length capA, .int .i64 side, .int .i64 cur, .int .i64 next, .int .u64 send, .int .u64 ceil, .int .i64 sec, .int .i64 nano] 27 (0, 0)) (.cells #[.slice aoB key'.length capB, .int .i64 side', .int .i64 cur', .int .i64 next', .int .u64 send', .int .u64 ceil', .int .i64 sec', .int .i64 nano'] 27 (0, 0)))
        have hr2 := hrB.on (fresh2 w (.cells #[.slice aoA key.length capA, .int .i64 side, .int .i64 cur, .int .i64 next, .int .u64 send, .int .u64 ceil, .int .i64 sec, .int .i64 nano] 27 (0, 0)) (.cells #[.slice aoB key'.length capB, .int .i64 side', .int .i64 cur', .int .i64 next', .int .u64 send', .int .u64 ceil', .int .i64 sec', .int .i64 nano'] 27 (0, 0)))
        refine (sameBytes aoA aoB key key' capA capB _ hA hB hr1 hr2).mono ?_
        rintro e w1 ⟨rfl, nd, rfl⟩
        rw [HK.out]
        clear hr1 hr2 hrA hrB
        go_wp2_with fail
        refine (sameStamp sec nano sec' nano' _).mono ?_
        rintro e w2 ⟨rfl, hb⟩
        rw [HS.out]
        have hB := (fresh2 w _ _).trans ((below_drewN (Below.refl _ _) nd).trans (hb.mono (by show _ ≤ (((w.alloc _).alloc _)).heap.size; exact (fresh2 w _ _).size)))
        obtain ⟨a1, b1⟩ := box2_cell hb 1
        obtain ⟨a2, b2⟩ := box2_cell hb 2
        obtain ⟨a3, b3⟩ := box2_cell hb 3
        obtain ⟨a4, b4⟩ := box2_cell hb 4
        obtain ⟨a5, b5⟩ := box2_cell hb 5
        clear hb
        go_wp2
        all_goals go_ret
        all_goals exact ⟨rfl, hB⟩
end Go.Proofs.Ytihndipgdogebaa
