/- Contracts that stand in other chapters too. -/
import Derived.Test.YtjlhnepjpjlppaaGreatDoorProg
import Derived.Test.YtjlhnepjpjlppaaGreatDoorMem
import Derived.Test.YtjlhnepjpjlppaaGreatDoorSame
import Derived.Test.YtjlhnepjpjlppaaGreatDoorBytes2
import Derived.Test.YtjlhnepjpjlppaaGreatDoorKit
import Derived.StillTailTactics
import Derived.Deep.RegionHeld3
namespace Go.Proofs.YtjlhnepjpjlppaaGreatDoor
open Go.RowKit
set_option maxRecDepth 100000
/-- A lane but for where its key lies. -/
structure Ln where
  key : List (BitVec 8)
  side : Int
  cur : Int
  next : Int
  send : Int
  ceil : Int
  sec : Int
  nano : Int
/-- Its value. -/
def Ln.val (L : Ln) (ao : Option Addr) (cap : Nat) : Value :=
  .agg #[.slice ao L.key.length cap, .int .i64 L.side, .int .i64 L.cur, .int .i64 L.next, .int .u64 L.send, .int .u64 L.ceil, .int .i64 L.sec, .int .i64 L.nano]
def stampB (sec nano : Int) : Bool := decide (0 ≤ sec) && decide (0 ≤ nano) && decide (nano ≤ 999999999)
def Ln.ok (L : Ln) : Bool := decide (L.key.length = 32) && (decide (0 ≤ L.side) && decide (L.side ≤ 1)) && (decide (1 ≤ L.cur) && decide (L.cur ≤ 2147483647) && decide (0 ≤ L.next) && decide (L.next ≤ 2147483647)) && stampB L.sec L.nano
theorem fresh1 (w : World) (o : Obj) : Below w.heap.size w (w.alloc o) := (Below.refl _ w).alloc (Nat.le_refl _) o
/-- A struct laid in memory reads so behind a call. -/
theorem box_cell {w w1 : World} {cs : Array Value} {t : TypeId} (hb : Below (w.alloc (.cells cs t)).heap.size (w.alloc (.cells cs t)) w1) (i : Nat) : w1.cell? ⟨w.heap.size, i, none⟩ = cs[i]? := by
  rw [cell_of_row w1 w.heap.size i cs t (0, 0) ((hb.block _ (by show _ < (w.heap.push _).size; simp)).trans (heap_alloc_new w _))]
theorem stampValid (sec nano : Int) (hs : sec ≤ 9223372036854775807) (w : World) : Calls Tryz.prog 27 #[.agg #[.int .i64 sec, .int .i64 nano]] w fun e w' => e = .returned (.bool (stampB sec nano)) ∧ Below w.heap.size w w' := by
  by_cases h1 : 0 ≤ sec
  · by_cases h2 : 0 ≤ nano
    · have hb : stampB sec nano = decide (nano ≤ 999999999) := by simp [stampB, h1, h2]
      rw [hb]
      go_enter Tryz.func27, Tryz.ntmps27
      go_wp2
      go_ret
      exact ⟨rfl, fresh1 _ _⟩
    · have hb : stampB sec nano = false := by simp [stampB, h2]
      rw [hb]
      go_enter Tryz.func27, Tryz.ntmps27
      go_wp2
      go_ret
      exact ⟨rfl, fresh1 _ _⟩
  · have hb : stampB sec nano = false := by simp [stampB, h1]
    rw [hb]
    go_enter Tryz.func27, Tryz.ntmps27
    go_wp2
    go_ret
    exact ⟨rfl, fresh1 _ _⟩
theorem laneValid (L : Ln) (ao : Option Addr) (cap : Nat) (hs : L.sec ≤ 9223372036854775807) (w : World) : Calls Tryz.prog 18 #[L.val ao cap] w fun e w' => e = .returned (.bool L.ok) ∧ Below w.heap.size w w' := by
  obtain ⟨key, side, cur, next, send, ceil, sec, nano⟩ := L
  unfold Ln.val
  simp only at hs ⊢
  by_cases hk : key.length = 32
  · have hkb : ((key.length : Int) == 32) = true := by rw [beq_iff_eq]; omega
    by_cases hs0 : side = 0
    · subst hs0
      by_cases h1 : 1 ≤ cur
      · by_cases h2 : cur ≤ 2147483647
        · by_cases h3 : 0 ≤ next
          · by_cases h4 : next ≤ 2147483647
            · have hb : Ln.ok ⟨key, 0, cur, next, send, ceil, sec, nano⟩ = stampB sec nano := by simp [Ln.ok, hk, h1, h2, h3, h4]
              rw [hb]
              have Hb := Lib.hid hb
              clear hb
              go_enter Tryz.func18, Tryz.ntmps18
              go_wp2_with fail
              refine (stampValid sec nano hs _).mono ?_
              rintro e w1 ⟨rfl, hb1⟩
              have hB := (fresh1 w _).trans (hb1.mono (by show _ ≤ (w.heap.push _).size; simp))
              clear hb1
              go_wp2
              go_ret
              exact ⟨rfl, hB⟩
            · have hb : Ln.ok ⟨key, 0, cur, next, send, ceil, sec, nano⟩ = false := by simp [Ln.ok]; intros; omega
              rw [hb]
              have Hb := Lib.hid hb
              clear hb
              go_enter Tryz.func18, Tryz.ntmps18
              go_wp2
              go_ret
              exact ⟨rfl, fresh1 _ _⟩
          · have hb : Ln.ok ⟨key, 0, cur, next, send, ceil, sec, nano⟩ = false := by simp [Ln.ok]; intros; omega
            rw [hb]
            have Hb := Lib.hid hb
            clear hb
            go_enter Tryz.func18, Tryz.ntmps18
            go_wp2
            go_ret
            exact ⟨rfl, fresh1 _ _⟩
        · have hb : Ln.ok ⟨key, 0, cur, next, send, ceil, sec, nano⟩ = false := by simp [Ln.ok]; intros; omega
          rw [hb]
          have Hb := Lib.hid hb
          clear hb
          go_enter Tryz.func18, Tryz.ntmps18
          go_wp2
          go_ret
          exact ⟨rfl, fresh1 _ _⟩
      · have hb : Ln.ok ⟨key, 0, cur, next, send, ceil, sec, nano⟩ = false := by simp [Ln.ok]; intros; omega
        rw [hb]
        have Hb := Lib.hid hb
        clear hb
        go_enter Tryz.func18, Tryz.ntmps18
        go_wp2
        go_ret
        exact ⟨rfl, fresh1 _ _⟩
    · have hs0b : (side == 0) = false := beq_eq_false_iff_ne.2 hs0
      by_cases hs1 : side = 1
      · subst hs1
        by_cases h1 : 1 ≤ cur
        · by_cases h2 : cur ≤ 2147483647
          · by_cases h3 : 0 ≤ next
            · by_cases h4 : next ≤ 2147483647
              · have hb : Ln.ok ⟨key, 1, cur, next, send, ceil, sec, nano⟩ = stampB sec nano := by simp [Ln.ok, hk, h1, h2, h3, h4]
                rw [hb]
                have Hb := Lib.hid hb
                clear hb
                go_enter Tryz.func18, Tryz.ntmps18
                go_wp2_with fail
                refine (stampValid sec nano hs _).mono ?_
                rintro e w1 ⟨rfl, hb1⟩
                have hB := (fresh1 w _).trans (hb1.mono (by show _ ≤ (w.heap.push _).size; simp))
                clear hb1
                go_wp2
                go_ret
                exact ⟨rfl, hB⟩
              · have hb : Ln.ok ⟨key, 1, cur, next, send, ceil, sec, nano⟩ = false := by simp [Ln.ok]; intros; omega
                rw [hb]
                have Hb := Lib.hid hb
                clear hb
                go_enter Tryz.func18, Tryz.ntmps18
                go_wp2
                go_ret
                exact ⟨rfl, fresh1 _ _⟩
            · have hb : Ln.ok ⟨key, 1, cur, next, send, ceil, sec, nano⟩ = false := by simp [Ln.ok]; intros; omega
              rw [hb]
              have Hb := Lib.hid hb
              clear hb
              go_enter Tryz.func18, Tryz.ntmps18
              go_wp2
              go_ret
              exact ⟨rfl, fresh1 _ _⟩
          · have hb : Ln.ok ⟨key, 1, cur, next, send, ceil, sec, nano⟩ = false := by simp [Ln.ok]; intros; omega
            rw [hb]
            have Hb := Lib.hid hb
            clear hb
            go_enter Tryz.func18, Tryz.ntmps18
            go_wp2
            go_ret
            exact ⟨rfl, fresh1 _ _⟩
        · have hb : Ln.ok ⟨key, 1, cur, next, send, ceil, sec, nano⟩ = false := by simp [Ln.ok]; intros; omega
          rw [hb]
          have Hb := Lib.hid hb
          clear hb
          go_enter Tryz.func18, Tryz.ntmps18
          go_wp2
          go_ret
          exact ⟨rfl, fresh1 _ _⟩
      · have hs1b : (side == 1) = false := beq_eq_false_iff_ne.2 hs1
        have hb : Ln.ok ⟨key, side, cur, next, send, ceil, sec, nano⟩ = false := by simp [Ln.ok]; intros; omega
        rw [hb]
        have Hb := Lib.hid hb
        clear hb
        go_enter Tryz.func18, Tryz.ntmps18
        go_wp2
        go_ret
        exact ⟨rfl, fresh1 _ _⟩
  · have hkb : ((key.length : Int) == 32) = false := by rw [beq_eq_false_iff_ne]; omega
    have hb : Ln.ok ⟨key, side, cur, next, send, ceil, sec, nano⟩ = false := by simp [Ln.ok]; intros; omega
    rw [hb]
    have Hb := Lib.hid hb
    clear hb
    go_enter Tryz.func18, Tryz.ntmps18
    go_wp2
    go_ret
    exact ⟨rfl, fresh1 _ _⟩
def blkB (b : Int) : Bool := decide (1 ≤ b) && decide (b ≤ 1048576)
def upF (c b : Int) : Int := if blkB b = true then (if 18446744073709551615 - b ≤ c then 18446744073709551615 else c + b) else 0
theorem laneBlock (b : Int) (w : World) : Calls Tryz.prog 26 #[.int .i64 b] w fun e w' => e = .returned (.bool (blkB b)) ∧ w' = w := by
  by_cases h1 : 1 ≤ b
  · have hb : blkB b = decide (b ≤ 1048576) := by simp [blkB, h1]
    rw [hb]
    go_enter Tryz.func26, Tryz.ntmps26
    go_wp2
    go_ret
    exact ⟨rfl, rfl⟩
  · have hb : blkB b = false := by simp [blkB, h1]
    rw [hb]
    go_enter Tryz.func26, Tryz.ntmps26
    go_wp2
    go_ret
    exact ⟨rfl, rfl⟩
theorem blkB_le {b : Int} (h : blkB b = true) : 1 ≤ b ∧ b ≤ 1048576 := by simpa [blkB] using h
theorem laneUp (c b : Int) (hc0 : 0 ≤ c) (hc1 : c ≤ 18446744073709551615) (w : World) : Calls Tryz.prog 20 #[.int .u64 c, .int .i64 b] w fun e w' => e = .returned (.int .u64 (upF c b)) ∧ w' = w := by
  by_cases hb : blkB b = true
  · obtain ⟨hb0, hb1⟩ := blkB_le hb
    by_cases hg : 18446744073709551615 - b ≤ c
    · have hu : upF c b = 18446744073709551615 := by simp [upF, hb, hg]
      rw [hu]
      have HB := Lib.hid hb
      clear hu hb
      go_enter Tryz.func20, Tryz.ntmps20
      go_wp2_with fail
      refine (laneBlock b w).mono ?_
      rintro e w1 ⟨rfl, rfl⟩
      rw [HB.out]
      go_wp2
      go_ret
      exact ⟨rfl, rfl⟩
    · have hu : upF c b = c + b := by simp [upF, hb, hg]
      rw [hu]
      have HB := Lib.hid hb
      clear hu hb
      go_enter Tryz.func20, Tryz.ntmps20
      go_wp2_with fail
      refine (laneBlock b w).mono ?_
      rintro e w1 ⟨rfl, rfl⟩
      rw [HB.out]
      go_wp2
      go_ret
      exact ⟨rfl, rfl⟩
  · have hb' : blkB b = false := by simpa using hb
    have hu : upF c b = 0 := by simp [upF, hb']
    rw [hu]
    have HB := Lib.hid hb'
    clear hu hb hb'
    go_enter Tryz.func20, Tryz.ntmps20
    go_wp2_with fail
    refine (laneBlock b w).mono ?_
    rintro e w1 ⟨rfl, rfl⟩
    rw [HB.out]
    go_wp2
    go_ret
    exact ⟨rfl, rfl⟩
theorem fresh2 (w : World) (o o' : Obj) : Below w.heap.size w ((w.alloc o).alloc o') := ((Below.refl _ w).alloc (Nat.le_refl _) o).alloc (by show _ ≤ (w.heap.push o).size; simp) o'
theorem box2_cell {w w2 : World} {cs1 cs2 : Array Value} {t1 t2 : TypeId} {n : Nat} (hb : Below (((w.alloc (.cells cs1 t1)).alloc (.cells cs2 t2)).drewN n).heap.size (((w.alloc (.cells cs1 t1)).alloc (.cells cs2 t2)).drewN n) w2) (i : Nat) :
    w2.cell? ⟨w.heap.size, i, none⟩ = cs1[i]? ∧ w2.cell? ⟨w.heap.size + 1, i, none⟩ = cs2[i]? := by
  have hs : (w.alloc (.cells cs1 t1)).heap.size = w.heap.size + 1 := by show (w.heap.push _).size = _; simp
  have hs2 : (((w.alloc (.cells cs1 t1)).alloc (.cells cs2 t2)).drewN n).heap.size = w.heap.size + 2 := by
    show ((w.alloc (.cells cs1 t1)).heap.push _).size = _; simp [hs]
  rw [hs2] at hb
  constructor
  · rw [cell_of_row w2 w.heap.size i cs1 t1 (0, 0)]
    rw [hb.block _ (by omega)]
    show ((w.alloc (.cells cs1 t1)).alloc (.cells cs2 t2)).heap[w.heap.size]? = _
    rw [alloc_old _ _ _ (by omega)]
    exact heap_alloc_new w _
  · rw [cell_of_row w2 (w.heap.size + 1) i cs2 t2 (0, 0)]
    rw [hb.block _ (by omega)]
    show ((w.alloc (.cells cs1 t1)).alloc (.cells cs2 t2)).heap[w.heap.size + 1]? = _
    rw [← hs]
    exact heap_alloc_new _ _
theorem sameStamp (a b c d : Int) (w : World) : Calls Tryz.prog 39 #[.agg #[.int .i64 a, .int .i64 b], .agg #[.int .i64 c, .int .i64 d]] w fun e w' => e = .returned (.bool (a == c && b == d)) ∧ Below w.heap.size w w' := by
  by_cases h : a = c
  · have hb : (a == c) = true := beq_iff_eq.2 h
    rw [hb, Bool.true_and]
    clear h
    go_enter Tryz.func39, Tryz.ntmps39
    go_wp2
    go_ret
    exact ⟨rfl, fresh2 _ _ _⟩
  · have hb : (a == c) = false := beq_eq_false_iff_ne.2 h
    rw [hb, Bool.false_and]
    clear h
    go_enter Tryz.func39, Tryz.ntmps39
    go_wp2
    go_ret
    exact ⟨rfl, fresh2 _ _ _⟩
def sameL (A B : Ln) : Bool := (A.key == B.key) && ((A.sec == B.sec && A.nano == B.nano) && ((A.side == B.side) && ((A.cur == B.cur) && ((A.next == B.next) && ((A.send == B.send) && (A.ceil == B.ceil))))))
theorem sameL_refl (A : Ln) : sameL A A = true := by simp [sameL]
set_option maxHeartbeats 4000000 in
theorem sameLane (A B : Ln) (aoA aoB : Option Addr) (capA capB : Nat) (w : World) (hA : A.key.length ≤ 281474976710656) (hB : B.key.length ≤ 281474976710656) (hrA : Rd w aoA A.key) (hrB : Rd w aoB B.key) :
   Calls Tryz.prog 17 #[A.val aoA capA, B.val aoB capB] w fun e w' => e = .returned (.bool (sameL A B)) ∧ Below w.heap.size w w' := by
  obtain ⟨key, side, cur, next, send, ceil, sec, nano⟩ := A
  obtain ⟨key', side', cur', next', send', ceil', sec', nano'⟩ := B
  unfold Ln.val
  simp only at hA hB hrA hrB ⊢
  obtain ⟨kb, hkb⟩ : ∃ kb, (key == key') = kb := ⟨_, rfl⟩
  obtain ⟨sb, hsb⟩ : ∃ sb, (sec == sec' && nano == nano') = sb := ⟨_, rfl⟩
  cases kb with
  | false =>
    have hb : sameL ⟨key, side, cur, next, send, ceil, sec, nano⟩ ⟨key', side', cur', next', send', ceil', sec', nano'⟩ = false := by unfold sameL; rw [hkb, hsb]; simp
    rw [hb]
    have HK := Lib.hid hkb
    have HS := Lib.hid hsb
    clear hb hkb hsb
    go_enter Tryz.func17, Tryz.ntmps17
    go_wp2_with fail
    have hr1 := hrA.on (fresh2 w (.cells #[.slice aoA key.length capA, .int .i64 side, .int .i64 cur, .int .i64 next, .int .u64 send, .int .u64 ceil, .int .i64 sec, .int .i64 nano] 27 (0, 0)) (.cells #[.slice aoB key'.length capB, .int .i64 side', .int .i64 cur', .int .i64 next', .int .u64 send', .int .u64 ceil', .int .i64 sec', .int .i64 nano'] 27 (0, 0)))
    have hr2 := hrB.on (fresh2 w (.cells #[.slice aoA key.length capA, .int .i64 side, .int .i64 cur, .int .i64 next, .int .u64 send, .int .u64 ceil, .int .i64 sec, .int .i64 nano] 27 (0, 0)) (.cells #[.slice aoB key'.length capB, .int .i64 side', .int .i64 cur', .int .i64 next', .int .u64 send', .int .u64 ceil', .int .i64 sec', .int .i64 nano'] 27 (0, 0)))
    refine (sameBytes aoA aoB key key' capA capB _ hA hB hr1 hr2).mono ?_
    rintro e w1 ⟨rfl, nd, rfl⟩
    rw [HK.out]
    clear hr1 hr2 hrA hrB
    go_wp2_with fail
    refine (sameStamp sec nano sec' nano' _).mono ?_
    rintro e w2 ⟨rfl, hb⟩
    rw [HS.out]
    have hB := (fresh2 w _ _).trans ((below_drewN (Below.refl _ _) nd).trans (hb.mono (by show _ ≤ (((w.alloc _).alloc _)).heap.size; exact (fresh2 w _ _).size)))
    obtain ⟨a1, b1⟩ := box2_cell hb 1
    obtain ⟨a2, b2⟩ := box2_cell hb 2
    obtain ⟨a3, b3⟩ := box2_cell hb 3
    obtain ⟨a4, b4⟩ := box2_cell hb 4
    obtain ⟨a5, b5⟩ := box2_cell hb 5
    clear hb
    go_wp2
    all_goals go_ret
    all_goals exact ⟨rfl, hB⟩
  | true =>
    cases sb with
    | false =>
      have hb : sameL ⟨key, side, cur, next, send, ceil, sec, nano⟩ ⟨key', side', cur', next', send', ceil', sec', nano'⟩ = false := by unfold sameL; rw [hkb, hsb]; simp
      rw [hb]
      have HK := Lib.hid hkb
      have HS := Lib.hid hsb
      clear hb hkb hsb
      go_enter Tryz.func17, Tryz.ntmps17
      go_wp2_with fail
      have hr1 := hrA.on (fresh2 w (.cells #[.slice aoA key.length capA, .int .i64 side, .int .i64 cur, .int .i64 next, .int .u64 send, .int .u64 ceil, .int .i64 sec, .int .i64 nano] 27 (0, 0)) (.cells #[.slice aoB key'.length capB, .int .i64 side', .int .i64 cur', .int .i64 next', .int .u64 send', .int .u64 ceil', .int .i64 sec', .int .i64 nano'] 27 (0, 0)))
      have hr2 := hrB.on (fresh2 w (.cells #[.slice aoA key.length capA, .int .i64 side, .int .i64 cur, .int .i64 next, .int .u64 send, .int .u64 ceil, .int .i64 sec, .int .i64 nano] 27 (0, 0)) (.cells #[.slice aoB key'.length capB, .int .i64 side', .int .i64 cur', .int .i64 next', .int .u64 send', .int .u64 ceil', .int .i64 sec', .int .i64 nano'] 27 (0, 0)))
      refine (sameBytes aoA aoB key key' capA capB _ hA hB hr1 hr2).mono ?_
      rintro e w1 ⟨rfl, nd, rfl⟩
      rw [HK.out]
      clear hr1 hr2 hrA hrB
      go_wp2_with fail
      refine (sameStamp sec nano sec' nano' _).mono ?_
      rintro e w2 ⟨rfl, hb⟩
      rw [HS.out]
      have hB := (fresh2 w _ _).trans ((below_drewN (Below.refl _ _) nd).trans (hb.mono (by show _ ≤ (((w.alloc _).alloc _)).heap.size; exact (fresh2 w _ _).size)))
      obtain ⟨a1, b1⟩ := box2_cell hb 1
      obtain ⟨a2, b2⟩ := box2_cell hb 2
      obtain ⟨a3, b3⟩ := box2_cell hb 3
      obtain ⟨a4, b4⟩ := box2_cell hb 4
      obtain ⟨a5, b5⟩ := box2_cell hb 5
      clear hb
      go_wp2
      all_goals go_ret
      all_goals exact ⟨rfl, hB⟩
    | true =>
      by_cases h0 : side = side'
      · have e0 : (side == side') = true := beq_iff_eq.2 h0
        clear h0
        by_cases h1 : cur = cur'
        · have e1 : (cur == cur') = true := beq_iff_eq.2 h1
          clear h1
          by_cases h2 : next = next'
          · have e2 : (next == next') = true := beq_iff_eq.2 h2
            clear h2
            by_cases h3 : send = send'
            · have e3 : (send == send') = true := beq_iff_eq.2 h3
              clear h3
              have hb : sameL ⟨key, side, cur, next, send, ceil, sec, nano⟩ ⟨key', side', cur', next', send', ceil', sec', nano'⟩ = (ceil == ceil') := by unfold sameL; rw [hkb, hsb]; simp [e0, e1, e2, e3]
              rw [hb]
              have HK := Lib.hid hkb
              have HS := Lib.hid hsb
              clear hb hkb hsb
              go_enter Tryz.func17, Tryz.ntmps17
              go_wp2_with fail
              have hr1 := hrA.on (fresh2 w (.cells #[.slice aoA key.length capA, .int .i64 side, .int .i64 cur, .int .i64 next, .int .u64 send, .int .u64 ceil, .int .i64 sec, .int .i64 nano] 27 (0, 0)) (.cells #[.slice aoB key'.length capB, .int .i64 side', .int .i64 cur', .int .i64 next', .int .u64 send', .int .u64 ceil', .int .i64 sec', .int .i64 nano'] 27 (0, 0)))
              have hr2 := hrB.on (fresh2 w (.cells #[.slice aoA key.length capA, .int .i64 side, .int .i64 cur, .int .i64 next, .int .u64 send, .int .u64 ceil, .int .i64 sec, .int .i64 nano] 27 (0, 0)) (.cells #[.slice aoB key'.length capB, .int .i64 side', .int .i64 cur', .int .i64 next', .int .u64 send', .int .u64 ceil', .int .i64 sec', .int .i64 nano'] 27 (0, 0)))
              refine (sameBytes aoA aoB key key' capA capB _ hA hB hr1 hr2).mono ?_
              rintro e w1 ⟨rfl, nd, rfl⟩
              rw [HK.out]
              clear hr1 hr2 hrA hrB
              go_wp2_with fail
              refine (sameStamp sec nano sec' nano' _).mono ?_
              rintro e w2 ⟨rfl, hb⟩
              rw [HS.out]
              have hB := (fresh2 w _ _).trans ((below_drewN (Below.refl _ _) nd).trans (hb.mono (by show _ ≤ (((w.alloc _).alloc _)).heap.size; exact (fresh2 w _ _).size)))
              obtain ⟨a1, b1⟩ := box2_cell hb 1
              obtain ⟨a2, b2⟩ := box2_cell hb 2
              obtain ⟨a3, b3⟩ := box2_cell hb 3
              obtain ⟨a4, b4⟩ := box2_cell hb 4
              obtain ⟨a5, b5⟩ := box2_cell hb 5
              clear hb
              go_wp2
              all_goals go_ret
              all_goals exact ⟨rfl, hB⟩
            · have e3 : (send == send') = false := beq_eq_false_iff_ne.2 h3
              clear h3
              have hb : sameL ⟨key, side, cur, next, send, ceil, sec, nano⟩ ⟨key', side', cur', next', send', ceil', sec', nano'⟩ = false := by unfold sameL; rw [hkb, hsb]; simp [e0, e1, e2, e3]
              rw [hb]
              have HK := Lib.hid hkb
              have HS := Lib.hid hsb
              clear hb hkb hsb
              go_enter Tryz.func17, Tryz.ntmps17
              go_wp2_with fail
              have hr1 := hrA.on (fresh2 w (.cells #[.slice aoA key.length capA, .int .i64 side, .int .i64 cur, .int .i64 next, .int .u64 send, .int .u64 ceil, .int .i64 sec, .int .i64 nano] 27 (0, 0)) (.cells #[.slice aoB key'.length capB, .int .i64 side', .int .i64 cur', .int .i64 next', .int .u64 send', .int .u64 ceil', .int .i64 sec', .int .i64 nano'] 27 (0, 0)))
              have hr2 := hrB.on (fresh2 w (.cells #[.slice aoA key.length capA, .int .i64 side, .int .i64 cur, .int .i64 next, .int .u64 send, .int .u64 ceil, .int .i64 sec, .int .i64 nano] 27 (0, 0)) (.cells #[.slice aoB key'.length capB, .int .i64 side', .int .i64 cur', .int .i64 next', .int .u64 send', .int .u64 ceil', .int .i64 sec', .int .i64 nano'] 27 (0, 0)))
              refine (sameBytes aoA aoB key key' capA capB _ hA hB hr1 hr2).mono ?_
              rintro e w1 ⟨rfl, nd, rfl⟩
              rw [HK.out]
              clear hr1 hr2 hrA hrB
              go_wp2_with fail
              refine (sameStamp sec nano sec' nano' _).mono ?_
              rintro e w2 ⟨rfl, hb⟩
              rw [HS.out]
              have hB := (fresh2 w _ _).trans ((below_drewN (Below.refl _ _) nd).trans (hb.mono (by show _ ≤ (((w.alloc _).alloc _)).heap.size; exact (fresh2 w _ _).size)))
              obtain ⟨a1, b1⟩ := box2_cell hb 1
              obtain ⟨a2, b2⟩ := box2_cell hb 2
              obtain ⟨a3, b3⟩ := box2_cell hb 3
              obtain ⟨a4, b4⟩ := box2_cell hb 4
              obtain ⟨a5, b5⟩ := box2_cell hb 5
              clear hb
              go_wp2
              all_goals go_ret
              all_goals exact ⟨rfl, hB⟩
          · have e2 : (next == next') = false := beq_eq_false_iff_ne.2 h2
            clear h2
            have hb : sameL ⟨key, side, cur, next, send, ceil, sec, nano⟩ ⟨key', side', cur', next', send', ceil', sec', nano'⟩ = false := by unfold sameL; rw [hkb, hsb]; simp [e0, e1, e2]
            rw [hb]
            have HK := Lib.hid hkb
            have HS := Lib.hid hsb
            clear hb hkb hsb
            go_enter Tryz.func17, Tryz.ntmps17
            go_wp2_with fail
            have hr1 := hrA.on (fresh2 w (.cells #[.slice aoA key.length capA, .int .i64 side, .int .i64 cur, .int .i64 next, .int .u64 send, .int .u64 ceil, .int .i64 sec, .int .i64 nano] 27 (0, 0)) (.cells #[.slice aoB key'.length capB, .int .i64 side', .int .i64 cur', .int .i64 next', .int .u64 send', .int .u64 ceil', .int .i64 sec', .int .i64 nano'] 27 (0, 0)))
            have hr2 := hrB.on (fresh2 w (.cells #[.slice aoA key.length capA, .int .i64 side, .int .i64 cur, .int .i64 next, .int .u64 send, .int .u64 ceil, .int .i64 sec, .int .i64 nano] 27 (0, 0)) (.cells #[.slice aoB key'.length capB, .int .i64 side', .int .i64 cur', .int .i64 next', .int .u64 send', .int .u64 ceil', .int .i64 sec', .int .i64 nano'] 27 (0, 0)))
            refine (sameBytes aoA aoB key key' capA capB _ hA hB hr1 hr2).mono ?_
            rintro e w1 ⟨rfl, nd, rfl⟩
            rw [HK.out]
            clear hr1 hr2 hrA hrB
            go_wp2_with fail
            refine (sameStamp sec nano sec' nano' _).mono ?_
            rintro e w2 ⟨rfl, hb⟩
            rw [HS.out]
            have hB := (fresh2 w _ _).trans ((below_drewN (Below.refl _ _) nd).trans (hb.mono (by show _ ≤ (((w.alloc _).alloc _)).heap.size; exact (fresh2 w _ _).size)))
            obtain ⟨a1, b1⟩ := box2_cell hb 1
            obtain ⟨a2, b2⟩ := box2_cell hb 2
            obtain ⟨a3, b3⟩ := box2_cell hb 3
            obtain ⟨a4, b4⟩ := box2_cell hb 4
            obtain ⟨a5, b5⟩ := box2_cell hb 5
            clear hb
            go_wp2
            all_goals go_ret
            all_goals exact ⟨rfl, hB⟩
        · have e1 : (cur == cur') = false := beq_eq_false_iff_ne.2 h1
          clear h1
          have hb : sameL ⟨key, side, cur, next, send, ceil, sec, nano⟩ ⟨key', side', cur', next', send', ceil', sec', nano'⟩ = false := by unfold sameL; rw [hkb, hsb]; simp [e0, e1]
          rw [hb]
          have HK := Lib.hid hkb
          have HS := Lib.hid hsb
          clear hb hkb hsb
          go_enter Tryz.func17, Tryz.ntmps17
          go_wp2_with fail
          have hr1 := hrA.on (fresh2 w (.cells #[.slice aoA key.length capA, .int .i64 side, .int .i64 cur, .int .i64 next, .int .u64 send, .int .u64 ceil, .int .i64 sec, .int .i64 nano] 27 (0, 0)) (.cells #[.slice aoB key'.length capB, .int .i64 side', .int .i64 cur', .int .i64 next', .int .u64 send', .int .u64 ceil', .int .i64 sec', .int .i64 nano'] 27 (0, 0)))
          have hr2 := hrB.on (fresh2 w (.cells #[.slice aoA key.length capA, .int .i64 side, .int .i64 cur, .int .i64 next, .int .u64 send, .int .u64 ceil, .int .i64 sec, .int .i64 nano] 27 (0, 0)) (.cells #[.slice aoB key'.length capB, .int .i64 side', .int .i64 cur', .int .i64 next', .int .u64 send', .int .u64 ceil', .int .i64 sec', .int .i64 nano'] 27 (0, 0)))
          refine (sameBytes aoA aoB key key' capA capB _ hA hB hr1 hr2).mono ?_
          rintro e w1 ⟨rfl, nd, rfl⟩
          rw [HK.out]
          clear hr1 hr2 hrA hrB
          go_wp2_with fail
          refine (sameStamp sec nano sec' nano' _).mono ?_
          rintro e w2 ⟨rfl, hb⟩
          rw [HS.out]
          have hB := (fresh2 w _ _).trans ((below_drewN (Below.refl _ _) nd).trans (hb.mono (by show _ ≤ (((w.alloc _).alloc _)).heap.size; exact (fresh2 w _ _).size)))
          obtain ⟨a1, b1⟩ := box2_cell hb 1
          obtain ⟨a2, b2⟩ := box2_cell hb 2
          obtain ⟨a3, b3⟩ := box2_cell hb 3
          obtain ⟨a4, b4⟩ := box2_cell hb 4
          obtain ⟨a5, b5⟩ := box2_cell hb 5
          clear hb
          go_wp2
          all_goals go_ret
          all_goals exact ⟨rfl, hB⟩
      · have e0 : (side == side') = false := beq_eq_false_iff_ne.2 h0
        clear h0
        have hb : sameL ⟨key, side, cur, next, send, ceil, sec, nano⟩ ⟨key', side', cur', next', send', ceil', sec', nano'⟩ = false := by unfold sameL; rw [hkb, hsb]; simp [e0]
        rw [hb]
        have HK := Lib.hid hkb
        have HS := Lib.hid hsb
        clear hb hkb hsb
        go_enter Tryz.func17, Tryz.ntmps17
        go_wp2_with fail
        have hr1 := hrA.on (fresh2 w (.cells #[.slice aoA key.length capA, .int .i64 side, .int .i64 cur, .int .i64 next, .int .u64 send, .int .u64 ceil, .int .i64 sec, .int .i64 nano] 27 (0, 0)) (.cells #[.slice aoB key'.length capB, .int .i64 side', .int .i64 cur', .int .i64 next', .int .u64 send', .int .u64 ceil', .int .i64 sec', .int .i64 nano'] 27 (0, 0)))
        have hr2 := hrB.on (fresh2 w (.cells #[.slice aoA key.length capA, .int .i64 side, .int .i64 cur, .int .i64 next, .int .u64 send, .int .u64 ceil, .int .i64 sec, .int .i64 nano] 27 (0, 0)) (.cells #[.slice aoB key'.length capB, .int .i64 side', .int .i64 cur', .int .i64 next', .int .u64 send', .int .u64 ceil', .int .i64 sec', .int .i64 nano'] 27 (0, 0)))
        refine (sameBytes aoA aoB key key' capA capB _ hA hB hr1 hr2).mono ?_
        rintro e w1 ⟨rfl, nd, rfl⟩
        rw [HK.out]
        clear hr1 hr2 hrA hrB
        go_wp2_with fail
        refine (sameStamp sec nano sec' nano' _).mono ?_
        rintro e w2 ⟨rfl, hb⟩
        rw [HS.out]
        have hB := (fresh2 w _ _).trans ((below_drewN (Below.refl _ _) nd).trans (hb.mono (by show _ ≤ (((w.alloc _).alloc _)).heap.size; exact (fresh2 w _ _).size)))
        obtain ⟨a1, b1⟩ := box2_cell hb 1
        obtain ⟨a2, b2⟩ := box2_cell hb 2
        obtain ⟨a3, b3⟩ := box2_cell hb 3
        obtain ⟨a4, b4⟩ := box2_cell hb 4
        obtain ⟨a5, b5⟩ := box2_cell hb 5
        clear hb
        go_wp2
        all_goals go_ret
        all_goals exact ⟨rfl, hB⟩
theorem box2_heap {w w2 : World} {cs1 cs2 : Array Value} {t1 t2 : TypeId} (hb : Below ((w.alloc (.cells cs1 t1)).alloc (.cells cs2 t2)).heap.size ((w.alloc (.cells cs1 t1)).alloc (.cells cs2 t2)) w2) :
    w2.heap[w.heap.size]? = some (.cells cs1 t1 (0, 0)) ∧ w2.heap[w.heap.size + 1]? = some (.cells cs2 t2 (0, 0)) := by
  have hs : (w.alloc (.cells cs1 t1)).heap.size = w.heap.size + 1 := by show (w.heap.push _).size = _; simp
  have hs2 : ((w.alloc (.cells cs1 t1)).alloc (.cells cs2 t2)).heap.size = w.heap.size + 2 := by
    show ((w.alloc (.cells cs1 t1)).heap.push _).size = _; simp [hs]
  rw [hs2] at hb
  constructor
  · rw [hb.block _ (by omega), alloc_old _ _ _ (by omega)]
    exact heap_alloc_new w _
  · rw [hb.block _ (by omega), ← hs]
    exact heap_alloc_new _ _
def Ln.zero : Ln := ⟨[], 0, 0, 0, 0, 0, 0, 0⟩
/-- Its cells. -/
def Ln.cells (L : Ln) (ao : Option Addr) (cap : Nat) : Array Value :=
  #[.slice ao L.key.length cap, .int .i64 L.side, .int .i64 L.cur, .int .i64 L.next, .int .u64 L.send, .int .u64 L.ceil, .int .i64 L.sec, .int .i64 L.nano]
theorem hb_block {B : Nat} {w w' : World} (h : Below B w w') (k : Nat) (hk : k < B) : w'.heap[k]? = w.heap[k]? := h.block k hk
def Ln.keep (L : Ln) (cur next send ceil sec nano : Int) : Ln := ⟨L.key, L.side, cur, next, send, ceil, sec, nano⟩
/-- What a closure does to the lane at g. -/
def Turns (w : World) (g : Nat) (cs : Array Value) (e : Ending) (w' : World) : Prop := e = .returned (.tuple #[]) ∧ w'.heap[g]? = some (.cells cs 27 (0, 0)) ∧ Only (fun k => k = g) w w'
theorem key32 {L : Ln} (h : L.ok = true) : L.key.length = 32 := by
  simp only [Ln.ok, Bool.and_eq_true, decide_eq_true_eq] at h
  exact h.1.1.1
theorem laneChanged0 (L : Ln) (ao : Option Addr) (cap : Nat) (may : Bool) (fv : Value) (w : World) (hs : L.sec ≤ 9223372036854775807) (hno : (may && L.ok) = false) :
   Calls Tryz.prog 23 #[L.val ao cap, .bool may, fv] w fun e w' => e = .returned (Ln.zero.val none 0) ∧ Below w.heap.size w w' := by
  obtain ⟨key, side, cur, next, send, ceil, sec, nano⟩ := L
  unfold Ln.val Ln.zero
  simp only at hs ⊢
  have Hn := Lib.hid hno
  clear hno
  cases may with
  | false =>
    go_enter Tryz.func23, Tryz.ntmps23
    go_wp2_with fail
    refine bodyPost_ret (v := .agg #[.slice none 0 0, .int .i64 0, .int .i64 0, .int .i64 0, .int .u64 0, .int .u64 0, .int .i64 0, .int .i64 0]) (by simp [results, Tryz.results23, go_sem]) rfl ⟨rfl, ?_⟩
    exact fresh2 _ _ _
  | true =>
    go_enter Tryz.func23, Tryz.ntmps23
    go_wp2_with fail
    refine (laneValid ⟨key, side, cur, next, send, ceil, sec, nano⟩ ao cap hs _).mono ?_
    rintro e w1 ⟨rfl, hb⟩
    rw [show Ln.ok _ = false from Hn.out]
    obtain ⟨x1, x2⟩ := box2_heap hb
    have hB := (fresh2 w _ _).trans (hb.mono (fresh2 w _ _).size)
    clear hb
    have b0 : w1.cell? ⟨w.heap.size + 1, 0, none⟩ = some (.slice none 0 0) := cell_of_row w1 (w.heap.size + 1) 0 _ _ _ x2
    have b1 : w1.cell? ⟨w.heap.size + 1, 1, none⟩ = some (.int .i64 0) := cell_of_row w1 (w.heap.size + 1) 1 _ _ _ x2
    have b2 : w1.cell? ⟨w.heap.size + 1, 2, none⟩ = some (.int .i64 0) := cell_of_row w1 (w.heap.size + 1) 2 _ _ _ x2
    have b3 : w1.cell? ⟨w.heap.size + 1, 3, none⟩ = some (.int .i64 0) := cell_of_row w1 (w.heap.size + 1) 3 _ _ _ x2
    have b4 : w1.cell? ⟨w.heap.size + 1, 4, none⟩ = some (.int .u64 0) := cell_of_row w1 (w.heap.size + 1) 4 _ _ _ x2
    have b5 : w1.cell? ⟨w.heap.size + 1, 5, none⟩ = some (.int .u64 0) := cell_of_row w1 (w.heap.size + 1) 5 _ _ _ x2
    have b6 : w1.cell? ⟨w.heap.size + 1, 6, none⟩ = some (.int .i64 0) := cell_of_row w1 (w.heap.size + 1) 6 _ _ _ x2
    have b7 : w1.cell? ⟨w.heap.size + 1, 7, none⟩ = some (.int .i64 0) := cell_of_row w1 (w.heap.size + 1) 7 _ _ _ x2
    have bf (i : Nat) : w1.frozen? ⟨w.heap.size + 1, i, none⟩ = false := frozen_of_row w1 (w.heap.size + 1) i _ _ x2
    clear x1 x2
    go_wp2_with fail
    refine bodyPost_ret (v := .agg #[.slice none 0 0, .int .i64 0, .int .i64 0, .int .i64 0, .int .u64 0, .int .u64 0, .int .i64 0, .int .i64 0]) (by simp [results, Tryz.results23, go_sem, b0, b1, b2, b3, b4, b5, b6, b7]) rfl ⟨rfl, ?_⟩
    iterate 8 (refine Below.set ?_ _ _ _ (by omega))
    exact hB
set_option maxHeartbeats 800000 in
theorem laneChanged1 (L : Ln) (cur' next' send' ceil' sec' nano' : Int) (ao : Option Addr) (cap : Nat) (fc : Nat) (caps : Array Value) (w : World) (hs : L.sec ≤ 9223372036854775807) (hok : L.ok = true) (hr : Rd w ao L.key) (he : ∀ (args : Array Value) (u : World), Sem.run Tryz.prog (callFunc fc args) u = .ok (.enter fc args) u)
   (hf : ∀ (w1 : World) (g : Nat) (ar : Option Addr) (cr : Nat), Below w.heap.size w w1 → w.heap.size ≤ g → w1.heap[g]? = some (.cells (L.cells ar cr) 27 (0, 0)) → Calls Tryz.prog fc (#[.pointer (some ⟨g, 0, none⟩)] ++ caps) w1 (Turns w1 g ((L.keep cur' next' send' ceil' sec' nano').cells ar cr))) :
   Calls Tryz.prog 23 #[L.val ao cap, .bool true, .func (.func fc) #[] caps] w fun e w' => ∃ ao' cap', e = .returned ((L.keep cur' next' send' ceil' sec' nano').val ao' cap') ∧ Mine w' w.heap.size 5 ao' cap' L.key ∧ Below w.heap.size w w' := by
  have hl := key32 hok
  obtain ⟨key, side, cur, next, send, ceil, sec, nano⟩ := L
  unfold Ln.val
  unfold Ln.keep Ln.cells at *
  simp only at hs hr hf hl ⊢
  obtain ⟨i0, hi, hz0, hz1, hz2⟩ := info_parts info_u8
  have HL := Lib.hid hl
  have hl2 : key.length ≤ 32 := by omega
  have HO := Lib.hid hok
  have HF := Lib.hid hf
  clear hl hok hf
  go_enter Tryz.func23, Tryz.ntmps23
  go_wp2_with fail
  refine (laneValid ⟨key, side, cur, next, send, ceil, sec, nano⟩ ao cap hs _).mono ?_
  rintro e w1 ⟨rfl, hb⟩
  rw [HO.out]
  obtain ⟨x1, x2⟩ := box2_heap hb
  have hB := (fresh2 w _ _).trans (hb.mono (fresh2 w _ _).size)
  have hz : w.heap.size + 2 ≤ w1.heap.size := by
    have := hb.size
    have h2 : ((w.alloc (.cells #[.slice ao key.length cap, .int .i64 side, .int .i64 cur, .int .i64 next, .int .u64 send, .int .u64 ceil, .int .i64 sec, .int .i64 nano] 27 (0, 0))).alloc (.cells #[.slice none 0 0, .int .i64 0, .int .i64 0, .int .i64 0, .int .u64 0, .int .u64 0, .int .i64 0, .int .i64 0] 27 (0, 0))).heap.size = w.heap.size + 2 := by show ((w.heap.push _).push _).size = _; simp
    rw [h2] at this
    exact this
  clear hb
  have a0 : w1.cell? ⟨w.heap.size, 0, none⟩ = some (.slice ao key.length cap) := cell_of_row w1 (w.heap.size) 0 _ _ _ x1
  have a1 : w1.cell? ⟨w.heap.size, 1, none⟩ = some (.int .i64 side) := cell_of_row w1 (w.heap.size) 1 _ _ _ x1
  have a2 : w1.cell? ⟨w.heap.size, 2, none⟩ = some (.int .i64 cur) := cell_of_row w1 (w.heap.size) 2 _ _ _ x1
  have a3 : w1.cell? ⟨w.heap.size, 3, none⟩ = some (.int .i64 next) := cell_of_row w1 (w.heap.size) 3 _ _ _ x1
  have a4 : w1.cell? ⟨w.heap.size, 4, none⟩ = some (.int .u64 send) := cell_of_row w1 (w.heap.size) 4 _ _ _ x1
  have a5 : w1.cell? ⟨w.heap.size, 5, none⟩ = some (.int .u64 ceil) := cell_of_row w1 (w.heap.size) 5 _ _ _ x1
  have a6 : w1.cell? ⟨w.heap.size, 6, none⟩ = some (.int .i64 sec) := cell_of_row w1 (w.heap.size) 6 _ _ _ x1
  have a7 : w1.cell? ⟨w.heap.size, 7, none⟩ = some (.int .i64 nano) := cell_of_row w1 (w.heap.size) 7 _ _ _ x1
  have af (i : Nat) : w1.frozen? ⟨w.heap.size, i, none⟩ = false := frozen_of_row w1 (w.heap.size) i _ _ x1
  go_wp2_with (at_make; refine wpList_make_bytes rfl _ _ 22 rfl 5 i0 Tryz.underlying22 hi hz0 hz1 hz2 .i64 .i64 key.length (by go_num) (by go_num) (by omega) ?_)
  intro w2 hO hs2 hB2
  clear a0 a1 a2 a3 a4 a5 a6 a7 af
  have x1' := (hB2.block w.heap.size (by omega) (fun h => h)).trans x1
  have x2' := (hB2.block (w.heap.size + 1) (by omega) (fun h => h)).trans x2
  clear x1 x2
  have a0 : w2.cell? ⟨w.heap.size, 0, none⟩ = some (.slice ao key.length cap) := cell_of_row w2 (w.heap.size) 0 _ _ _ x1'
  have a1 : w2.cell? ⟨w.heap.size, 1, none⟩ = some (.int .i64 side) := cell_of_row w2 (w.heap.size) 1 _ _ _ x1'
  have a2 : w2.cell? ⟨w.heap.size, 2, none⟩ = some (.int .i64 cur) := cell_of_row w2 (w.heap.size) 2 _ _ _ x1'
  have a3 : w2.cell? ⟨w.heap.size, 3, none⟩ = some (.int .i64 next) := cell_of_row w2 (w.heap.size) 3 _ _ _ x1'
  have a4 : w2.cell? ⟨w.heap.size, 4, none⟩ = some (.int .u64 send) := cell_of_row w2 (w.heap.size) 4 _ _ _ x1'
  have a5 : w2.cell? ⟨w.heap.size, 5, none⟩ = some (.int .u64 ceil) := cell_of_row w2 (w.heap.size) 5 _ _ _ x1'
  have a6 : w2.cell? ⟨w.heap.size, 6, none⟩ = some (.int .i64 sec) := cell_of_row w2 (w.heap.size) 6 _ _ _ x1'
  have a7 : w2.cell? ⟨w.heap.size, 7, none⟩ = some (.int .i64 nano) := cell_of_row w2 (w.heap.size) 7 _ _ _ x1'
  have af (i : Nat) : w2.frozen? ⟨w.heap.size, i, none⟩ = false := frozen_of_row w2 (w.heap.size) i _ _ x1'
  have hr2 := (hr.on hB).only hB2 (fun _ _ h => h)
  go_wp2_with (with_reducible refine wpList_copy_bytes rfl (.tmp 20) (.tmp 22) 22 22 rfl 5 i0 Tryz.underlying22 hi hz1 w1.heap.size key.length key.length ao key.length cap ?hd ?hs key.length 5 (List.replicate key.length 0#8) key ?hO ?hL ?hr rfl ?hmn ?_)
  case hd => rfl
  case hs => rfl
  case hO => exact hO
  case hL => simp
  case hr => exact hr2
  case hmn => omega
  intro w3 hO3 hs3 hB3
  clear a0 a1 a2 a3 a4 a5 a6 a7 af
  have x1 := (hB3.block w.heap.size (by omega) (by omega)).trans x1'
  have x2 := (hB3.block (w.heap.size + 1) (by omega) (by omega)).trans x2'
  have hB3' : Below w.heap.size w w3 := hB.trans (((hB2.mono (T := fun k => k = w1.heap.size) (fun _ _ h => h.elim)).trans hB3).below (fun _ h => by omega) (by omega))
  have hO4 : Own w3 w1.heap.size key.length 5 key := by simpa using hO3
  clear x1' x2' hO hO3 hr hr2 hB
  have a0 : w3.cell? ⟨w.heap.size, 0, none⟩ = some (.slice ao key.length cap) := cell_of_row w3 (w.heap.size) 0 _ _ _ x1
  have a1 : w3.cell? ⟨w.heap.size, 1, none⟩ = some (.int .i64 side) := cell_of_row w3 (w.heap.size) 1 _ _ _ x1
  have a2 : w3.cell? ⟨w.heap.size, 2, none⟩ = some (.int .i64 cur) := cell_of_row w3 (w.heap.size) 2 _ _ _ x1
  have a3 : w3.cell? ⟨w.heap.size, 3, none⟩ = some (.int .i64 next) := cell_of_row w3 (w.heap.size) 3 _ _ _ x1
  have a4 : w3.cell? ⟨w.heap.size, 4, none⟩ = some (.int .u64 send) := cell_of_row w3 (w.heap.size) 4 _ _ _ x1
  have a5 : w3.cell? ⟨w.heap.size, 5, none⟩ = some (.int .u64 ceil) := cell_of_row w3 (w.heap.size) 5 _ _ _ x1
  have a6 : w3.cell? ⟨w.heap.size, 6, none⟩ = some (.int .i64 sec) := cell_of_row w3 (w.heap.size) 6 _ _ _ x1
  have a7 : w3.cell? ⟨w.heap.size, 7, none⟩ = some (.int .i64 nano) := cell_of_row w3 (w.heap.size) 7 _ _ _ x1
  have af (i : Nat) : w3.frozen? ⟨w.heap.size, i, none⟩ = false := frozen_of_row w3 (w.heap.size) i _ _ x1
  go_wp2_with fail
  have y1 := heap_setCell_same w3 w.heap.size 0 _ _ (.slice (some ⟨w1.heap.size, 0, none⟩) key.length key.length) x1
  have y2 := (heap_setCell_other w3 ⟨w.heap.size, 0, none⟩ (w.heap.size + 1) (.slice (some ⟨w1.heap.size, 0, none⟩) key.length key.length) (by simp)).trans x2
  have hO5 := hO4.setCell w.heap.size 0 (.slice (some ⟨w1.heap.size, 0, none⟩) key.length key.length) (by omega)
  have hB5 := Below.set hB3' w.heap.size 0 (.slice (some ⟨w1.heap.size, 0, none⟩) key.length key.length) (Nat.le_refl _)
  have hz5 : (w3.setCell ⟨w.heap.size, 0, none⟩ (.slice (some ⟨w1.heap.size, 0, none⟩) key.length key.length)).heap.size = w3.heap.size := by simp [World.setCell]
  refine (HF.out _ w.heap.size (some ⟨w1.heap.size, 0, none⟩) key.length hB5 (Nat.le_refl _) y1).mono ?_
  rintro e w4 ⟨rfl, z1, hB4⟩
  have z2 := (hB4.block (w.heap.size + 1) (by omega) (by omega)).trans y2
  have hO6 := hO5.only hB4 (by omega)
  have hB6 := hB5.trans (hB4.below (B := w.heap.size) (fun _ h => by omega) (by omega))
  clear y1 y2 hO5 hB5 hz5 hB4 hO4 hB3' x1 x2
  clear a0 a1 a2 a3 a4 a5 a6 a7 af
  have a0 : w4.cell? ⟨w.heap.size, 0, none⟩ = some (.slice (some ⟨w1.heap.size, 0, none⟩) key.length key.length) := cell_of_row w4 (w.heap.size) 0 _ _ _ z1
  have a1 : w4.cell? ⟨w.heap.size, 1, none⟩ = some (.int .i64 side) := cell_of_row w4 (w.heap.size) 1 _ _ _ z1
  have a2 : w4.cell? ⟨w.heap.size, 2, none⟩ = some (.int .i64 cur') := cell_of_row w4 (w.heap.size) 2 _ _ _ z1
  have a3 : w4.cell? ⟨w.heap.size, 3, none⟩ = some (.int .i64 next') := cell_of_row w4 (w.heap.size) 3 _ _ _ z1
  have a4 : w4.cell? ⟨w.heap.size, 4, none⟩ = some (.int .u64 send') := cell_of_row w4 (w.heap.size) 4 _ _ _ z1
  have a5 : w4.cell? ⟨w.heap.size, 5, none⟩ = some (.int .u64 ceil') := cell_of_row w4 (w.heap.size) 5 _ _ _ z1
  have a6 : w4.cell? ⟨w.heap.size, 6, none⟩ = some (.int .i64 sec') := cell_of_row w4 (w.heap.size) 6 _ _ _ z1
  have a7 : w4.cell? ⟨w.heap.size, 7, none⟩ = some (.int .i64 nano') := cell_of_row w4 (w.heap.size) 7 _ _ _ z1
  have af (i : Nat) : w4.frozen? ⟨w.heap.size, i, none⟩ = false := frozen_of_row w4 (w.heap.size) i _ _ z1
  have b0 : w4.cell? ⟨w.heap.size + 1, 0, none⟩ = some (.slice none 0 0) := cell_of_row w4 (w.heap.size + 1) 0 _ _ _ z2
  have b1 : w4.cell? ⟨w.heap.size + 1, 1, none⟩ = some (.int .i64 0) := cell_of_row w4 (w.heap.size + 1) 1 _ _ _ z2
  have b2 : w4.cell? ⟨w.heap.size + 1, 2, none⟩ = some (.int .i64 0) := cell_of_row w4 (w.heap.size + 1) 2 _ _ _ z2
  have b3 : w4.cell? ⟨w.heap.size + 1, 3, none⟩ = some (.int .i64 0) := cell_of_row w4 (w.heap.size + 1) 3 _ _ _ z2
  have b4 : w4.cell? ⟨w.heap.size + 1, 4, none⟩ = some (.int .u64 0) := cell_of_row w4 (w.heap.size + 1) 4 _ _ _ z2
  have b5 : w4.cell? ⟨w.heap.size + 1, 5, none⟩ = some (.int .u64 0) := cell_of_row w4 (w.heap.size + 1) 5 _ _ _ z2
  have b6 : w4.cell? ⟨w.heap.size + 1, 6, none⟩ = some (.int .i64 0) := cell_of_row w4 (w.heap.size + 1) 6 _ _ _ z2
  have b7 : w4.cell? ⟨w.heap.size + 1, 7, none⟩ = some (.int .i64 0) := cell_of_row w4 (w.heap.size + 1) 7 _ _ _ z2
  have bf (i : Nat) : w4.frozen? ⟨w.heap.size + 1, i, none⟩ = false := frozen_of_row w4 (w.heap.size + 1) i _ _ z2
  clear z1 z2
  go_wp2_with fail
  refine bodyPost_ret (v := .agg #[.slice (some ⟨w1.heap.size, 0, none⟩) key.length key.length, .int .i64 side, .int .i64 cur', .int .i64 next', .int .u64 send', .int .u64 ceil', .int .i64 sec', .int .i64 nano']) (by simp [results, Tryz.results23, go_sem, b0, b1, b2, b3, b4, b5, b6, b7]) rfl ⟨some ⟨w1.heap.size, 0, none⟩, key.length, rfl, ?_, ?_⟩
  · refine Mine.from (B := w.heap.size + 2) ?_ (by omega)
    iterate 8 (refine Mine.setCell ?_ _ _ _ (by omega))
    exact Or.inr ⟨_, rfl, hz, hO6⟩
  · iterate 8 (refine Below.set ?_ _ _ _ (by omega))
    exact hB6
theorem lanePlain (w : World) : ∀ x, x = w → True := fun _ _ => trivial
theorem cloNew (w : World) (g : Nat) (ar : Option Addr) (cr : Nat) (key : List (BitVec 8)) (side cur next send ceil sec nano : Int) (hx : w.heap[g]? = some (.cells #[.slice ar key.length cr, .int .i64 side, .int .i64 cur, .int .i64 next, .int .u64 send, .int .u64 ceil, .int .i64 sec, .int .i64 nano] 27 (0, 0)))   : Calls Tryz.prog 30 #[.pointer (some ⟨g, 0, none⟩)] w (Turns w g #[.slice ar key.length cr, .int .i64 side, .int .i64 cur, .int .i64 next, .int .u64 send, .int .u64 ceil, .int .i64 sec, .int .i64 nano]) := by
  have a0 : w.cell? ⟨g, 0, none⟩ = some (.slice ar key.length cr) := cell_of_row w (g) 0 _ _ _ hx
  have a1 : w.cell? ⟨g, 1, none⟩ = some (.int .i64 side) := cell_of_row w (g) 1 _ _ _ hx
  have a2 : w.cell? ⟨g, 2, none⟩ = some (.int .i64 cur) := cell_of_row w (g) 2 _ _ _ hx
  have a3 : w.cell? ⟨g, 3, none⟩ = some (.int .i64 next) := cell_of_row w (g) 3 _ _ _ hx
  have a4 : w.cell? ⟨g, 4, none⟩ = some (.int .u64 send) := cell_of_row w (g) 4 _ _ _ hx
  have a5 : w.cell? ⟨g, 5, none⟩ = some (.int .u64 ceil) := cell_of_row w (g) 5 _ _ _ hx
  have a6 : w.cell? ⟨g, 6, none⟩ = some (.int .i64 sec) := cell_of_row w (g) 6 _ _ _ hx
  have a7 : w.cell? ⟨g, 7, none⟩ = some (.int .i64 nano) := cell_of_row w (g) 7 _ _ _ hx
  have af (i : Nat) : w.frozen? ⟨g, i, none⟩ = false := frozen_of_row w (g) i _ _ hx
  have HX := Lib.hid hx
  clear hx
  go_enter Tryz.func30, Tryz.ntmps30
  go_wp2_with fail
  go_end0
  exact And.intro rfl (And.intro HX.out (Only.refl _ _))
theorem cloAgain (w : World) (g : Nat) (ar : Option Addr) (cr : Nat) (key : List (BitVec 8)) (side cur next send ceil sec nano : Int) (hx : w.heap[g]? = some (.cells #[.slice ar key.length cr, .int .i64 side, .int .i64 cur, .int .i64 next, .int .u64 send, .int .u64 ceil, .int .i64 sec, .int .i64 nano] 27 (0, 0))) (p1 : Nat) (g1 : Int) (_hp1n : p1 ≠ g) (hp1 : w.cell? ⟨p1, 0, none⟩ = some (.int .i64 g1)) : Calls Tryz.prog 24 #[.pointer (some ⟨g, 0, none⟩), .pointer (some ⟨p1, 0, none⟩)] w (Turns w g #[.slice ar key.length cr, .int .i64 side, .int .i64 g1, .int .i64 next, .int .u64 0, .int .u64 0, .int .i64 sec, .int .i64 nano]) := by
  have a0 : w.cell? ⟨g, 0, none⟩ = some (.slice ar key.length cr) := cell_of_row w (g) 0 _ _ _ hx
  have a1 : w.cell? ⟨g, 1, none⟩ = some (.int .i64 side) := cell_of_row w (g) 1 _ _ _ hx
  have a2 : w.cell? ⟨g, 2, none⟩ = some (.int .i64 cur) := cell_of_row w (g) 2 _ _ _ hx
  have a3 : w.cell? ⟨g, 3, none⟩ = some (.int .i64 next) := cell_of_row w (g) 3 _ _ _ hx
  have a4 : w.cell? ⟨g, 4, none⟩ = some (.int .u64 send) := cell_of_row w (g) 4 _ _ _ hx
  have a5 : w.cell? ⟨g, 5, none⟩ = some (.int .u64 ceil) := cell_of_row w (g) 5 _ _ _ hx
  have a6 : w.cell? ⟨g, 6, none⟩ = some (.int .i64 sec) := cell_of_row w (g) 6 _ _ _ hx
  have a7 : w.cell? ⟨g, 7, none⟩ = some (.int .i64 nano) := cell_of_row w (g) 7 _ _ _ hx
  have af (i : Nat) : w.frozen? ⟨g, i, none⟩ = false := frozen_of_row w (g) i _ _ hx
  have HX := Lib.hid hx
  clear hx
  go_enter Tryz.func24, Tryz.ntmps24
  go_wp2_with fail
  go_end0
  exact And.intro rfl (And.intro (heap_setCell_same _ g 5 _ _ _ (heap_setCell_same _ g 4 _ _ _ (heap_setCell_same _ g 2 _ _ _ HX.out))) ((((((Only.refl _ _).trans (Only.setCell _ g 2 _))).trans (Only.setCell _ g 4 _))).trans (Only.setCell _ g 5 _)))
theorem cloPropose (w : World) (g : Nat) (ar : Option Addr) (cr : Nat) (key : List (BitVec 8)) (side cur next send ceil sec nano : Int) (hx : w.heap[g]? = some (.cells #[.slice ar key.length cr, .int .i64 side, .int .i64 cur, .int .i64 next, .int .u64 send, .int .u64 ceil, .int .i64 sec, .int .i64 nano] 27 (0, 0))) (p1 : Nat) (g1 : Int) (_hp1n : p1 ≠ g) (hp1 : w.cell? ⟨p1, 0, none⟩ = some (.int .i64 g1)) : Calls Tryz.prog 25 #[.pointer (some ⟨g, 0, none⟩), .pointer (some ⟨p1, 0, none⟩)] w (Turns w g #[.slice ar key.length cr, .int .i64 side, .int .i64 cur, .int .i64 g1, .int .u64 send, .int .u64 ceil, .int .i64 sec, .int .i64 nano]) := by
  have a0 : w.cell? ⟨g, 0, none⟩ = some (.slice ar key.length cr) := cell_of_row w (g) 0 _ _ _ hx
  have a1 : w.cell? ⟨g, 1, none⟩ = some (.int .i64 side) := cell_of_row w (g) 1 _ _ _ hx
  have a2 : w.cell? ⟨g, 2, none⟩ = some (.int .i64 cur) := cell_of_row w (g) 2 _ _ _ hx
  have a3 : w.cell? ⟨g, 3, none⟩ = some (.int .i64 next) := cell_of_row w (g) 3 _ _ _ hx
  have a4 : w.cell? ⟨g, 4, none⟩ = some (.int .u64 send) := cell_of_row w (g) 4 _ _ _ hx
  have a5 : w.cell? ⟨g, 5, none⟩ = some (.int .u64 ceil) := cell_of_row w (g) 5 _ _ _ hx
  have a6 : w.cell? ⟨g, 6, none⟩ = some (.int .i64 sec) := cell_of_row w (g) 6 _ _ _ hx
  have a7 : w.cell? ⟨g, 7, none⟩ = some (.int .i64 nano) := cell_of_row w (g) 7 _ _ _ hx
  have af (i : Nat) : w.frozen? ⟨g, i, none⟩ = false := frozen_of_row w (g) i _ _ hx
  have HX := Lib.hid hx
  clear hx
  go_enter Tryz.func25, Tryz.ntmps25
  go_wp2_with fail
  go_end0
  exact And.intro rfl (And.intro (heap_setCell_same _ g 3 _ _ _ HX.out) ((Only.refl _ _).trans (Only.setCell _ g 3 _)))
theorem cloReserve (w : World) (g : Nat) (ar : Option Addr) (cr : Nat) (key : List (BitVec 8)) (side cur next send ceil sec nano : Int) (hx : w.heap[g]? = some (.cells #[.slice ar key.length cr, .int .i64 side, .int .i64 cur, .int .i64 next, .int .u64 send, .int .u64 ceil, .int .i64 sec, .int .i64 nano] 27 (0, 0))) (p1 : Nat) (at1 : Int) (p2 : Nat) (b1 : Int) (_hp1n : p1 ≠ g) (hp1 : w.cell? ⟨p1, 0, none⟩ = some (.int .u64 at1)) (hp10 : 0 ≤ at1) (hp11 : at1 ≤ 18446744073709551615) (_hp2n : p2 ≠ g) (hp2 : w.cell? ⟨p2, 0, none⟩ = some (.int .i64 b1)) : Calls Tryz.prog 31 #[.pointer (some ⟨g, 0, none⟩), .pointer (some ⟨p1, 0, none⟩), .pointer (some ⟨p2, 0, none⟩)] w (Turns w g #[.slice ar key.length cr, .int .i64 side, .int .i64 cur, .int .i64 next, .int .u64 (upF at1 b1), .int .u64 ceil, .int .i64 sec, .int .i64 nano]) := by
  have a0 : w.cell? ⟨g, 0, none⟩ = some (.slice ar key.length cr) := cell_of_row w (g) 0 _ _ _ hx
  have a1 : w.cell? ⟨g, 1, none⟩ = some (.int .i64 side) := cell_of_row w (g) 1 _ _ _ hx
  have a2 : w.cell? ⟨g, 2, none⟩ = some (.int .i64 cur) := cell_of_row w (g) 2 _ _ _ hx
  have a3 : w.cell? ⟨g, 3, none⟩ = some (.int .i64 next) := cell_of_row w (g) 3 _ _ _ hx
  have a4 : w.cell? ⟨g, 4, none⟩ = some (.int .u64 send) := cell_of_row w (g) 4 _ _ _ hx
  have a5 : w.cell? ⟨g, 5, none⟩ = some (.int .u64 ceil) := cell_of_row w (g) 5 _ _ _ hx
  have a6 : w.cell? ⟨g, 6, none⟩ = some (.int .i64 sec) := cell_of_row w (g) 6 _ _ _ hx
  have a7 : w.cell? ⟨g, 7, none⟩ = some (.int .i64 nano) := cell_of_row w (g) 7 _ _ _ hx
  have af (i : Nat) : w.frozen? ⟨g, i, none⟩ = false := frozen_of_row w (g) i _ _ hx
  have HX := Lib.hid hx
  clear hx
  go_enter Tryz.func31, Tryz.ntmps31
  go_wp2_with fail
  refine (laneUp at1 b1 hp10 hp11 w).mono ?_
  rintro e w1 ⟨rfl, rfl⟩
  go_wp2_with fail
  go_end0
  exact And.intro rfl (And.intro (heap_setCell_same _ g 4 _ _ _ HX.out) ((Only.refl _ _).trans (Only.setCell _ g 4 _)))
theorem cloRaise (w : World) (g : Nat) (ar : Option Addr) (cr : Nat) (key : List (BitVec 8)) (side cur next send ceil sec nano : Int) (hx : w.heap[g]? = some (.cells #[.slice ar key.length cr, .int .i64 side, .int .i64 cur, .int .i64 next, .int .u64 send, .int .u64 ceil, .int .i64 sec, .int .i64 nano] 27 (0, 0))) (p1 : Nat) (c1 : Int) (p2 : Nat) (b1 : Int) (_hp1n : p1 ≠ g) (hp1 : w.cell? ⟨p1, 0, none⟩ = some (.int .u64 c1)) (hp10 : 0 ≤ c1) (hp11 : c1 ≤ 18446744073709551615) (_hp2n : p2 ≠ g) (hp2 : w.cell? ⟨p2, 0, none⟩ = some (.int .i64 b1)) : Calls Tryz.prog 33 #[.pointer (some ⟨g, 0, none⟩), .pointer (some ⟨p1, 0, none⟩), .pointer (some ⟨p2, 0, none⟩)] w (Turns w g #[.slice ar key.length cr, .int .i64 side, .int .i64 cur, .int .i64 next, .int .u64 send, .int .u64 (upF c1 b1), .int .i64 sec, .int .i64 nano]) := by
  have a0 : w.cell? ⟨g, 0, none⟩ = some (.slice ar key.length cr) := cell_of_row w (g) 0 _ _ _ hx
  have a1 : w.cell? ⟨g, 1, none⟩ = some (.int .i64 side) := cell_of_row w (g) 1 _ _ _ hx
  have a2 : w.cell? ⟨g, 2, none⟩ = some (.int .i64 cur) := cell_of_row w (g) 2 _ _ _ hx
  have a3 : w.cell? ⟨g, 3, none⟩ = some (.int .i64 next) := cell_of_row w (g) 3 _ _ _ hx
  have a4 : w.cell? ⟨g, 4, none⟩ = some (.int .u64 send) := cell_of_row w (g) 4 _ _ _ hx
  have a5 : w.cell? ⟨g, 5, none⟩ = some (.int .u64 ceil) := cell_of_row w (g) 5 _ _ _ hx
  have a6 : w.cell? ⟨g, 6, none⟩ = some (.int .i64 sec) := cell_of_row w (g) 6 _ _ _ hx
  have a7 : w.cell? ⟨g, 7, none⟩ = some (.int .i64 nano) := cell_of_row w (g) 7 _ _ _ hx
  have af (i : Nat) : w.frozen? ⟨g, i, none⟩ = false := frozen_of_row w (g) i _ _ hx
  have HX := Lib.hid hx
  clear hx
  go_enter Tryz.func33, Tryz.ntmps33
  go_wp2_with fail
  refine (laneUp c1 b1 hp10 hp11 w).mono ?_
  rintro e w1 ⟨rfl, rfl⟩
  go_wp2_with fail
  go_end0
  exact And.intro rfl (And.intro (heap_setCell_same _ g 5 _ _ _ HX.out) ((Only.refl _ _).trans (Only.setCell _ g 5 _)))
set_option maxHeartbeats 2000000 in
theorem cloOpened (w : World) (g : Nat) (ar : Option Addr) (cr : Nat) (key : List (BitVec 8)) (side cur next send ceil sec nano : Int) (hx : w.heap[g]? = some (.cells #[.slice ar key.length cr, .int .i64 side, .int .i64 cur, .int .i64 next, .int .u64 send, .int .u64 ceil, .int .i64 sec, .int .i64 nano] 27 (0, 0))) (p1 : Nat) (g1 : Int) (p2 : Nat) (b1 : Int) (p3 : Nat) (c1 : Int) (hp1n : p1 ≠ g) (hp1 : w.cell? ⟨p1, 0, none⟩ = some (.int .i64 g1)) (hp2n : p2 ≠ g) (hp2 : w.cell? ⟨p2, 0, none⟩ = some (.int .i64 b1)) (hp3n : p3 ≠ g) (hp3 : w.cell? ⟨p3, 0, none⟩ = some (.int .u64 c1)) (hp30 : 0 ≤ c1) (hp31 : c1 ≤ 18446744073709551615) : Calls Tryz.prog 32 #[.pointer (some ⟨g, 0, none⟩), .pointer (some ⟨p1, 0, none⟩), .pointer (some ⟨p2, 0, none⟩), .pointer (some ⟨p3, 0, none⟩)] w (Turns w g #[.slice ar key.length cr, .int .i64 side, .int .i64 g1, .int .i64 next, .int .u64 (upF 1 b1), .int .u64 (upF c1 b1), .int .i64 sec, .int .i64 nano]) := by
  have a0 : w.cell? ⟨g, 0, none⟩ = some (.slice ar key.length cr) := cell_of_row w (g) 0 _ _ _ hx
  have a1 : w.cell? ⟨g, 1, none⟩ = some (.int .i64 side) := cell_of_row w (g) 1 _ _ _ hx
  have a2 : w.cell? ⟨g, 2, none⟩ = some (.int .i64 cur) := cell_of_row w (g) 2 _ _ _ hx
  have a3 : w.cell? ⟨g, 3, none⟩ = some (.int .i64 next) := cell_of_row w (g) 3 _ _ _ hx
  have a4 : w.cell? ⟨g, 4, none⟩ = some (.int .u64 send) := cell_of_row w (g) 4 _ _ _ hx
  have a5 : w.cell? ⟨g, 5, none⟩ = some (.int .u64 ceil) := cell_of_row w (g) 5 _ _ _ hx
  have a6 : w.cell? ⟨g, 6, none⟩ = some (.int .i64 sec) := cell_of_row w (g) 6 _ _ _ hx
  have a7 : w.cell? ⟨g, 7, none⟩ = some (.int .i64 nano) := cell_of_row w (g) 7 _ _ _ hx
  have af (i : Nat) : w.frozen? ⟨g, i, none⟩ = false := frozen_of_row w (g) i _ _ hx
  have HX := Lib.hid hx
  clear hx
  go_enter Tryz.func32, Tryz.ntmps32
  go_wp2_with fail
  go_region_held3 (fun w' => w'.cell? ⟨p1, 0, none⟩ = some (.int .i64 g1) ∧ w'.cell? ⟨p2, 0, none⟩ = some (.int .i64 b1) ∧ w'.cell? ⟨p3, 0, none⟩ = some (.int .u64 c1)) ((simp only [cell_drew, cell_far _ _ _ _ _ _ hp1n, cell_far _ _ _ _ _ _ hp2n, cell_far _ _ _ _ _ _ hp3n]; exact ⟨hp1, hp2, hp3⟩))
    ((go_at_call 20; refine (laneUp _ _ (by first | assumption | omega) (by first | assumption | omega) _).mono ?_; rintro e w1 ⟨rfl, rfl⟩))
  all_goals go_wp2_with fail
  go_end0
  exact And.intro rfl (And.intro (heap_setCell_same _ g 5 _ _ _ (heap_setCell_same _ g 4 _ _ _ (heap_setCell_same _ g 2 _ _ _ HX.out))) (((((((show Only (fun k => k = g) w w.drew from ⟨rfl, rfl, rfl, Nat.le_refl _, fun _ _ _ => rfl⟩)).trans (Only.setCell _ g 2 _))).trans (Only.setCell _ g 4 _))).trans (Only.setCell _ g 5 _)))
set_option maxHeartbeats 2000000 in
theorem cloAnswered (w : World) (g : Nat) (ar : Option Addr) (cr : Nat) (key : List (BitVec 8)) (side cur next send ceil sec nano : Int) (hx : w.heap[g]? = some (.cells #[.slice ar key.length cr, .int .i64 side, .int .i64 cur, .int .i64 next, .int .u64 send, .int .u64 ceil, .int .i64 sec, .int .i64 nano] 27 (0, 0))) (p1 : Nat) (g1 : Int) (p2 : Nat) (at1 : Int) (p3 : Nat) (b1 : Int) (p4 : Nat) (c1 : Int) (p5 : Nat) (ss sn : Int) (hp1n : p1 ≠ g) (hp1 : w.cell? ⟨p1, 0, none⟩ = some (.int .i64 g1)) (hp2n : p2 ≠ g) (hp2 : w.cell? ⟨p2, 0, none⟩ = some (.int .u64 at1)) (hp20 : 0 ≤ at1) (hp21 : at1 ≤ 18446744073709551615) (hp3n : p3 ≠ g) (hp3 : w.cell? ⟨p3, 0, none⟩ = some (.int .i64 b1)) (hp4n : p4 ≠ g) (hp4 : w.cell? ⟨p4, 0, none⟩ = some (.int .u64 c1)) (hp40 : 0 ≤ c1) (hp41 : c1 ≤ 18446744073709551615) (hp5n : p5 ≠ g) (hp5 : w.cell? ⟨p5, 0, none⟩ = some (.int .i64 ss)) (hp5b : w.cell? ⟨p5, 1, none⟩ = some (.int .i64 sn)) : Calls Tryz.prog 29 #[.pointer (some ⟨g, 0, none⟩), .pointer (some ⟨p1, 0, none⟩), .pointer (some ⟨p2, 0, none⟩), .pointer (some ⟨p3, 0, none⟩), .pointer (some ⟨p4, 0, none⟩), .pointer (some ⟨p5, 0, none⟩)] w (Turns w g #[.slice ar key.length cr, .int .i64 side, .int .i64 g1, .int .i64 next, .int .u64 (upF at1 b1), .int .u64 (upF c1 b1), .int .i64 ss, .int .i64 sn]) := by
  have a0 : w.cell? ⟨g, 0, none⟩ = some (.slice ar key.length cr) := cell_of_row w (g) 0 _ _ _ hx
  have a1 : w.cell? ⟨g, 1, none⟩ = some (.int .i64 side) := cell_of_row w (g) 1 _ _ _ hx
  have a2 : w.cell? ⟨g, 2, none⟩ = some (.int .i64 cur) := cell_of_row w (g) 2 _ _ _ hx
  have a3 : w.cell? ⟨g, 3, none⟩ = some (.int .i64 next) := cell_of_row w (g) 3 _ _ _ hx
  have a4 : w.cell? ⟨g, 4, none⟩ = some (.int .u64 send) := cell_of_row w (g) 4 _ _ _ hx
  have a5 : w.cell? ⟨g, 5, none⟩ = some (.int .u64 ceil) := cell_of_row w (g) 5 _ _ _ hx
  have a6 : w.cell? ⟨g, 6, none⟩ = some (.int .i64 sec) := cell_of_row w (g) 6 _ _ _ hx
  have a7 : w.cell? ⟨g, 7, none⟩ = some (.int .i64 nano) := cell_of_row w (g) 7 _ _ _ hx
  have af (i : Nat) : w.frozen? ⟨g, i, none⟩ = false := frozen_of_row w (g) i _ _ hx
  have HX := Lib.hid hx
  clear hx
  go_enter Tryz.func29, Tryz.ntmps29
  go_wp2_with fail
  go_region_held3 (fun w' => w'.cell? ⟨p1, 0, none⟩ = some (.int .i64 g1) ∧ w'.cell? ⟨p2, 0, none⟩ = some (.int .u64 at1) ∧ w'.cell? ⟨p3, 0, none⟩ = some (.int .i64 b1) ∧ w'.cell? ⟨p4, 0, none⟩ = some (.int .u64 c1) ∧ w'.cell? ⟨p5, 0, none⟩ = some (.int .i64 ss) ∧ w'.cell? ⟨p5, 1, none⟩ = some (.int .i64 sn)) ((simp only [cell_drew, cell_far _ _ _ _ _ _ hp1n, cell_far _ _ _ _ _ _ hp2n, cell_far _ _ _ _ _ _ hp3n, cell_far _ _ _ _ _ _ hp4n, cell_far _ _ _ _ _ _ hp5n]; exact ⟨hp1, hp2, hp3, hp4, hp5, hp5b⟩))
    ((go_at_call 20; refine (laneUp _ _ (by first | assumption | omega) (by first | assumption | omega) _).mono ?_; rintro e w1 ⟨rfl, rfl⟩))
  all_goals go_wp2_with fail
  go_end0
  exact And.intro rfl (And.intro (heap_setCell_same _ g 7 _ _ _ (heap_setCell_same _ g 6 _ _ _ (heap_setCell_same _ g 5 _ _ _ (heap_setCell_same _ g 4 _ _ _ (heap_setCell_same _ g 2 _ _ _ HX.out))))) (((((((((((show Only (fun k => k = g) w w.drew from ⟨rfl, rfl, rfl, Nat.le_refl _, fun _ _ _ => rfl⟩)).trans (Only.setCell _ g 2 _))).trans (Only.setCell _ g 4 _))).trans (Only.setCell _ g 5 _))).trans (Only.setCell _ g 6 _))).trans (Only.setCell _ g 7 _)))
def maxC : Int := 18446744073709551614
def mayR (L : Ln) (at1 b : Int) : Bool := blkB b && (decide (L.send ≤ at1) && (decide (at1 ≤ 18446744073709551614) && L.ok))
def reserveL (L : Ln) (at1 b : Int) : Ln := if mayR L at1 b = true then L.keep L.cur L.next (upF at1 b) L.ceil L.sec L.nano else Ln.zero
def mayS (L : Ln) (c b : Int) : Bool := blkB b && (decide (L.ceil ≤ c) && (decide (c ≤ 18446744073709551614) && L.ok))
def raiseL (L : Ln) (c b : Int) : Ln := if mayS L c b = true then L.keep L.cur L.next L.send (upF c b) L.sec L.nano else Ln.zero
def mayO (L : Ln) (g c b : Int) : Bool := blkB b && (decide (L.cur < g) && (decide (g ≤ L.next) && (decide (c ≤ 18446744073709551614) && L.ok)))
def openedL (L : Ln) (g c b : Int) : Ln := if mayO L g c b = true then L.keep g L.next (upF 1 b) (upF c b) L.sec L.nano else Ln.zero
/-- What may stand in a lane's fields, by their types. -/
structure Ln.fits (L : Ln) : Prop where
  len : L.key.length ≤ 140737488351232
  cur0 : -9223372036854775808 ≤ L.cur
  cur1 : L.cur ≤ 9223372036854775807
  next0 : -9223372036854775808 ≤ L.next
  next1 : L.next ≤ 9223372036854775807
  send0 : 0 ≤ L.send
  send1 : L.send ≤ 18446744073709551615
  ceil0 : 0 ≤ L.ceil
  ceil1 : L.ceil ≤ 18446744073709551615
  sec1 : L.sec ≤ 9223372036854775807
set_option maxHeartbeats 1600000 in
theorem laneReserve_n0 (L : Ln) (ao : Option Addr) (cap : Nat) (at1 b : Int) (_ha0 : 0 ≤ at1) (_ha1 : at1 ≤ 18446744073709551615) (w : World) (hf : L.fits) (hr : Rd w ao L.key) (hb : blkB b = false) :
   Calls Tryz.prog 11 #[L.val ao cap, .int .u64 at1, .int .i64 b] w fun e w' => ∃ ao' cap', e = .returned ((reserveL L at1 b).val ao' cap') ∧ Mine w' w.heap.size 5 ao' cap' (reserveL L at1 b).key ∧ Below w.heap.size w w' := by
  obtain ⟨hl, hcur0, hcur1, hnext0, hnext1, hsend0, hsend1, hceil0, hceil1, hs⟩ := hf
  obtain ⟨key, side, cur, next, send, ceil, sec, nano⟩ := L
  unfold Ln.val
  simp only at hl hcur0 hcur1 hnext0 hnext1 hsend0 hsend1 hceil0 hceil1 hs hr ⊢
  have hz : reserveL ⟨key, side, cur, next, send, ceil, sec, nano⟩ at1 b = Ln.zero := by
    have : mayR ⟨key, side, cur, next, send, ceil, sec, nano⟩ at1 b = false := by simp [mayR, hb]
    simp [reserveL, this]
  rw [hz]
  unfold Ln.zero
  have HB := Lib.hid (show blkB b = false from hb)
  clear hb hz
  go_enter Tryz.func11, Tryz.ntmps11
  go_wp2_with fail
  refine (laneBlock b _).mono ?_
  rintro e w1 ⟨rfl, rfl⟩
  rw [HB.out]
  go_wp2_with fail
  refine (laneChanged0 ⟨key, side, cur, next, send, ceil, sec, nano⟩ ao cap false _ _ hs (by simp)).mono ?_
  rintro e w2 ⟨he, hb2⟩
  obtain rfl : e = .returned (.agg #[.slice none 0 0, .int .i64 0, .int .i64 0, .int .i64 0, .int .u64 0, .int .u64 0, .int .i64 0, .int .i64 0]) := he
  have y : w2.heap[w.heap.size + 3]? = some (.cells #[.slice none 0 0, .int .i64 0, .int .i64 0, .int .i64 0, .int .u64 0, .int .u64 0, .int .i64 0, .int .i64 0] 27 (0, 0)) := (hb_block hb2 (w.heap.size + 3) (by simp only [alloc_size]; omega)).trans (by simp only [alloc_get, alloc_size]; repeat first | rw [if_pos trivial] | rw [if_neg (by omega)] | rw [if_pos (by omega)])
  have b0 : w2.cell? ⟨w.heap.size + 3, 0, none⟩ = some (.slice none 0 0) := cell_of_row w2 (w.heap.size + 3) 0 _ _ _ y
  have b1 : w2.cell? ⟨w.heap.size + 3, 1, none⟩ = some (.int .i64 0) := cell_of_row w2 (w.heap.size + 3) 1 _ _ _ y
  have b2 : w2.cell? ⟨w.heap.size + 3, 2, none⟩ = some (.int .i64 0) := cell_of_row w2 (w.heap.size + 3) 2 _ _ _ y
  have b3 : w2.cell? ⟨w.heap.size + 3, 3, none⟩ = some (.int .i64 0) := cell_of_row w2 (w.heap.size + 3) 3 _ _ _ y
  have b4 : w2.cell? ⟨w.heap.size + 3, 4, none⟩ = some (.int .u64 0) := cell_of_row w2 (w.heap.size + 3) 4 _ _ _ y
  have b5 : w2.cell? ⟨w.heap.size + 3, 5, none⟩ = some (.int .u64 0) := cell_of_row w2 (w.heap.size + 3) 5 _ _ _ y
  have b6 : w2.cell? ⟨w.heap.size + 3, 6, none⟩ = some (.int .i64 0) := cell_of_row w2 (w.heap.size + 3) 6 _ _ _ y
  have b7 : w2.cell? ⟨w.heap.size + 3, 7, none⟩ = some (.int .i64 0) := cell_of_row w2 (w.heap.size + 3) 7 _ _ _ y
  have bf (i : Nat) : w2.frozen? ⟨w.heap.size + 3, i, none⟩ = false := frozen_of_row w2 (w.heap.size + 3) i _ _ y
  clear y
  go_wp2_with fail
  refine bodyPost_ret (v := .agg #[.slice none 0 0, .int .i64 0, .int .i64 0, .int .i64 0, .int .u64 0, .int .u64 0, .int .i64 0, .int .i64 0]) (by simp [results, Tryz.results11, go_sem, b0, b1, b2, b3, b4, b5, b6, b7]) rfl ⟨_, _, rfl, ?_, ?_⟩
  · exact Or.inl ⟨rfl, rfl, rfl⟩
  · iterate 8 (refine Below.set ?_ _ _ _ (by omega))
    exact (((((Below.refl _ w).alloc (Nat.le_refl _) _).alloc (by simp only [alloc_size]; omega) _).alloc (by simp only [alloc_size]; omega) _).alloc (by simp only [alloc_size]; omega) _).trans (hb2.mono (by simp only [alloc_size]; omega))
set_option maxHeartbeats 1600000 in
theorem laneReserve_n1 (L : Ln) (ao : Option Addr) (cap : Nat) (at1 b : Int) (_ha0 : 0 ≤ at1) (_ha1 : at1 ≤ 18446744073709551615) (w : World) (hf : L.fits) (hr : Rd w ao L.key) (hb : blkB b = true) (h1 : ¬ L.send ≤ at1) :
   Calls Tryz.prog 11 #[L.val ao cap, .int .u64 at1, .int .i64 b] w fun e w' => ∃ ao' cap', e = .returned ((reserveL L at1 b).val ao' cap') ∧ Mine w' w.heap.size 5 ao' cap' (reserveL L at1 b).key ∧ Below w.heap.size w w' := by
  obtain ⟨hl, hcur0, hcur1, hnext0, hnext1, hsend0, hsend1, hceil0, hceil1, hs⟩ := hf
  obtain ⟨key, side, cur, next, send, ceil, sec, nano⟩ := L
  unfold Ln.val
  simp only at hl hcur0 hcur1 hnext0 hnext1 hsend0 hsend1 hceil0 hceil1 hs hr h1 ⊢
  have hz : reserveL ⟨key, side, cur, next, send, ceil, sec, nano⟩ at1 b = Ln.zero := by
    have : mayR ⟨key, side, cur, next, send, ceil, sec, nano⟩ at1 b = false := by simp [mayR, hb, h1]
    simp [reserveL, this]
  rw [hz]
  unfold Ln.zero
  have HB := Lib.hid (show blkB b = true from hb)
  clear hb hz
  go_enter Tryz.func11, Tryz.ntmps11
  go_wp2_with fail
  refine (laneBlock b _).mono ?_
  rintro e w1 ⟨rfl, rfl⟩
  rw [HB.out]
  go_wp2_with fail
  refine (laneChanged0 ⟨key, side, cur, next, send, ceil, sec, nano⟩ ao cap false _ _ hs (by simp)).mono ?_
  rintro e w2 ⟨he, hb2⟩
  obtain rfl : e = .returned (.agg #[.slice none 0 0, .int .i64 0, .int .i64 0, .int .i64 0, .int .u64 0, .int .u64 0, .int .i64 0, .int .i64 0]) := he
  have y : w2.heap[w.heap.size + 3]? = some (.cells #[.slice none 0 0, .int .i64 0, .int .i64 0, .int .i64 0, .int .u64 0, .int .u64 0, .int .i64 0, .int .i64 0] 27 (0, 0)) := (hb_block hb2 (w.heap.size + 3) (by simp only [alloc_size]; omega)).trans (by simp only [alloc_get, alloc_size]; repeat first | rw [if_pos trivial] | rw [if_neg (by omega)] | rw [if_pos (by omega)])
  have b0 : w2.cell? ⟨w.heap.size + 3, 0, none⟩ = some (.slice none 0 0) := cell_of_row w2 (w.heap.size + 3) 0 _ _ _ y
  have b1 : w2.cell? ⟨w.heap.size + 3, 1, none⟩ = some (.int .i64 0) := cell_of_row w2 (w.heap.size + 3) 1 _ _ _ y
  have b2 : w2.cell? ⟨w.heap.size + 3, 2, none⟩ = some (.int .i64 0) := cell_of_row w2 (w.heap.size + 3) 2 _ _ _ y
  have b3 : w2.cell? ⟨w.heap.size + 3, 3, none⟩ = some (.int .i64 0) := cell_of_row w2 (w.heap.size + 3) 3 _ _ _ y
  have b4 : w2.cell? ⟨w.heap.size + 3, 4, none⟩ = some (.int .u64 0) := cell_of_row w2 (w.heap.size + 3) 4 _ _ _ y
  have b5 : w2.cell? ⟨w.heap.size + 3, 5, none⟩ = some (.int .u64 0) := cell_of_row w2 (w.heap.size + 3) 5 _ _ _ y
  have b6 : w2.cell? ⟨w.heap.size + 3, 6, none⟩ = some (.int .i64 0) := cell_of_row w2 (w.heap.size + 3) 6 _ _ _ y
  have b7 : w2.cell? ⟨w.heap.size + 3, 7, none⟩ = some (.int .i64 0) := cell_of_row w2 (w.heap.size + 3) 7 _ _ _ y
  have bf (i : Nat) : w2.frozen? ⟨w.heap.size + 3, i, none⟩ = false := frozen_of_row w2 (w.heap.size + 3) i _ _ y
  clear y
  go_wp2_with fail
  refine bodyPost_ret (v := .agg #[.slice none 0 0, .int .i64 0, .int .i64 0, .int .i64 0, .int .u64 0, .int .u64 0, .int .i64 0, .int .i64 0]) (by simp [results, Tryz.results11, go_sem, b0, b1, b2, b3, b4, b5, b6, b7]) rfl ⟨_, _, rfl, ?_, ?_⟩
  · exact Or.inl ⟨rfl, rfl, rfl⟩
  · iterate 8 (refine Below.set ?_ _ _ _ (by omega))
    exact (((((Below.refl _ w).alloc (Nat.le_refl _) _).alloc (by simp only [alloc_size]; omega) _).alloc (by simp only [alloc_size]; omega) _).alloc (by simp only [alloc_size]; omega) _).trans (hb2.mono (by simp only [alloc_size]; omega))
set_option maxHeartbeats 1600000 in
theorem laneReserve_n2 (L : Ln) (ao : Option Addr) (cap : Nat) (at1 b : Int) (ha0 : 0 ≤ at1) (ha1 : at1 ≤ 18446744073709551615) (w : World) (hf : L.fits) (hr : Rd w ao L.key) (hb : blkB b = true) (h1 : L.send ≤ at1) (h2 : ¬ at1 ≤ 18446744073709551614) :
   Calls Tryz.prog 11 #[L.val ao cap, .int .u64 at1, .int .i64 b] w fun e w' => ∃ ao' cap', e = .returned ((reserveL L at1 b).val ao' cap') ∧ Mine w' w.heap.size 5 ao' cap' (reserveL L at1 b).key ∧ Below w.heap.size w w' := by
  obtain ⟨hl, hcur0, hcur1, hnext0, hnext1, hsend0, hsend1, hceil0, hceil1, hs⟩ := hf
  obtain ⟨key, side, cur, next, send, ceil, sec, nano⟩ := L
  unfold Ln.val
  simp only at hl hcur0 hcur1 hnext0 hnext1 hsend0 hsend1 hceil0 hceil1 hs hr h1 h2 ⊢
  obtain rfl : at1 = 18446744073709551615 := by omega
  clear h2 ha0 ha1
  have hz : reserveL ⟨key, side, cur, next, send, ceil, sec, nano⟩ 18446744073709551615 b = Ln.zero := by
    have : mayR ⟨key, side, cur, next, send, ceil, sec, nano⟩ 18446744073709551615 b = false := by simp [mayR, hb, h1]
    simp [reserveL, this]
  rw [hz]
  unfold Ln.zero
  have HB := Lib.hid (show blkB b = true from hb)
  clear hb hz
  go_enter Tryz.func11, Tryz.ntmps11
  go_wp2_with fail
  refine (laneBlock b _).mono ?_
  rintro e w1 ⟨rfl, rfl⟩
  rw [HB.out]
  go_wp2_with fail
  refine (laneChanged0 ⟨key, side, cur, next, send, ceil, sec, nano⟩ ao cap false _ _ hs (by simp)).mono ?_
  rintro e w2 ⟨he, hb2⟩
  obtain rfl : e = .returned (.agg #[.slice none 0 0, .int .i64 0, .int .i64 0, .int .i64 0, .int .u64 0, .int .u64 0, .int .i64 0, .int .i64 0]) := he
  have y : w2.heap[w.heap.size + 3]? = some (.cells #[.slice none 0 0, .int .i64 0, .int .i64 0, .int .i64 0, .int .u64 0, .int .u64 0, .int .i64 0, .int .i64 0] 27 (0, 0)) := (hb_block hb2 (w.heap.size + 3) (by simp only [alloc_size]; omega)).trans (by simp only [alloc_get, alloc_size]; repeat first | rw [if_pos trivial] | rw [if_neg (by omega)] | rw [if_pos (by omega)])
  have b0 : w2.cell? ⟨w.heap.size + 3, 0, none⟩ = some (.slice none 0 0) := cell_of_row w2 (w.heap.size + 3) 0 _ _ _ y
  have b1 : w2.cell? ⟨w.heap.size + 3, 1, none⟩ = some (.int .i64 0) := cell_of_row w2 (w.heap.size + 3) 1 _ _ _ y
  have b2 : w2.cell? ⟨w.heap.size + 3, 2, none⟩ = some (.int .i64 0) := cell_of_row w2 (w.heap.size + 3) 2 _ _ _ y
  have b3 : w2.cell? ⟨w.heap.size + 3, 3, none⟩ = some (.int .i64 0) := cell_of_row w2 (w.heap.size + 3) 3 _ _ _ y
  have b4 : w2.cell? ⟨w.heap.size + 3, 4, none⟩ = some (.int .u64 0) := cell_of_row w2 (w.heap.size + 3) 4 _ _ _ y
  have b5 : w2.cell? ⟨w.heap.size + 3, 5, none⟩ = some (.int .u64 0) := cell_of_row w2 (w.heap.size + 3) 5 _ _ _ y
  have b6 : w2.cell? ⟨w.heap.size + 3, 6, none⟩ = some (.int .i64 0) := cell_of_row w2 (w.heap.size + 3) 6 _ _ _ y
  have b7 : w2.cell? ⟨w.heap.size + 3, 7, none⟩ = some (.int .i64 0) := cell_of_row w2 (w.heap.size + 3) 7 _ _ _ y
  have bf (i : Nat) : w2.frozen? ⟨w.heap.size + 3, i, none⟩ = false := frozen_of_row w2 (w.heap.size + 3) i _ _ y
  clear y
  go_wp2_with fail
  refine bodyPost_ret (v := .agg #[.slice none 0 0, .int .i64 0, .int .i64 0, .int .i64 0, .int .u64 0, .int .u64 0, .int .i64 0, .int .i64 0]) (by simp [results, Tryz.results11, go_sem, b0, b1, b2, b3, b4, b5, b6, b7]) rfl ⟨_, _, rfl, ?_, ?_⟩
  · exact Or.inl ⟨rfl, rfl, rfl⟩
  · iterate 8 (refine Below.set ?_ _ _ _ (by omega))
    exact (((((Below.refl _ w).alloc (Nat.le_refl _) _).alloc (by simp only [alloc_size]; omega) _).alloc (by simp only [alloc_size]; omega) _).alloc (by simp only [alloc_size]; omega) _).trans (hb2.mono (by simp only [alloc_size]; omega))
set_option maxHeartbeats 1600000 in
theorem laneReserve_no (L : Ln) (ao : Option Addr) (cap : Nat) (at1 b : Int) (_ha0 : 0 ≤ at1) (_ha1 : at1 ≤ 18446744073709551615) (w : World) (hf : L.fits) (hr : Rd w ao L.key) (hb : blkB b = true) (h1 : L.send ≤ at1) (h2 : at1 ≤ 18446744073709551614) (hok' : L.ok = false) :
   Calls Tryz.prog 11 #[L.val ao cap, .int .u64 at1, .int .i64 b] w fun e w' => ∃ ao' cap', e = .returned ((reserveL L at1 b).val ao' cap') ∧ Mine w' w.heap.size 5 ao' cap' (reserveL L at1 b).key ∧ Below w.heap.size w w' := by
  obtain ⟨hl, hcur0, hcur1, hnext0, hnext1, hsend0, hsend1, hceil0, hceil1, hs⟩ := hf
  obtain ⟨key, side, cur, next, send, ceil, sec, nano⟩ := L
  unfold Ln.val
  simp only at hl hcur0 hcur1 hnext0 hnext1 hsend0 hsend1 hceil0 hceil1 hs hr h1 h2 hok' ⊢
  have hno : (true && Ln.ok ⟨key, side, cur, next, send, ceil, sec, nano⟩) = false := by simpa using hok'
  have hz : reserveL ⟨key, side, cur, next, send, ceil, sec, nano⟩ at1 b = Ln.zero := by
    have : mayR ⟨key, side, cur, next, send, ceil, sec, nano⟩ at1 b = false := by simp [mayR, hb, h1, h2, hok']
    simp [reserveL, this]
  rw [hz]
  unfold Ln.zero
  have HB := Lib.hid (show blkB b = true from hb)
  clear hb hz
  go_enter Tryz.func11, Tryz.ntmps11
  go_wp2_with fail
  refine (laneBlock b _).mono ?_
  rintro e w1 ⟨rfl, rfl⟩
  rw [HB.out]
  go_wp2_with fail
  refine (laneChanged0 ⟨key, side, cur, next, send, ceil, sec, nano⟩ ao cap true _ _ hs hno).mono ?_
  rintro e w2 ⟨he, hb2⟩
  obtain rfl : e = .returned (.agg #[.slice none 0 0, .int .i64 0, .int .i64 0, .int .i64 0, .int .u64 0, .int .u64 0, .int .i64 0, .int .i64 0]) := he
  have y : w2.heap[w.heap.size + 3]? = some (.cells #[.slice none 0 0, .int .i64 0, .int .i64 0, .int .i64 0, .int .u64 0, .int .u64 0, .int .i64 0, .int .i64 0] 27 (0, 0)) := (hb_block hb2 (w.heap.size + 3) (by simp only [alloc_size]; omega)).trans (by simp only [alloc_get, alloc_size]; repeat first | rw [if_pos trivial] | rw [if_neg (by omega)] | rw [if_pos (by omega)])
  have b0 : w2.cell? ⟨w.heap.size + 3, 0, none⟩ = some (.slice none 0 0) := cell_of_row w2 (w.heap.size + 3) 0 _ _ _ y
  have b1 : w2.cell? ⟨w.heap.size + 3, 1, none⟩ = some (.int .i64 0) := cell_of_row w2 (w.heap.size + 3) 1 _ _ _ y
  have b2 : w2.cell? ⟨w.heap.size + 3, 2, none⟩ = some (.int .i64 0) := cell_of_row w2 (w.heap.size + 3) 2 _ _ _ y
  have b3 : w2.cell? ⟨w.heap.size + 3, 3, none⟩ = some (.int .i64 0) := cell_of_row w2 (w.heap.size + 3) 3 _ _ _ y
  have b4 : w2.cell? ⟨w.heap.size + 3, 4, none⟩ = some (.int .u64 0) := cell_of_row w2 (w.heap.size + 3) 4 _ _ _ y
  have b5 : w2.cell? ⟨w.heap.size + 3, 5, none⟩ = some (.int .u64 0) := cell_of_row w2 (w.heap.size + 3) 5 _ _ _ y
  have b6 : w2.cell? ⟨w.heap.size + 3, 6, none⟩ = some (.int .i64 0) := cell_of_row w2 (w.heap.size + 3) 6 _ _ _ y
  have b7 : w2.cell? ⟨w.heap.size + 3, 7, none⟩ = some (.int .i64 0) := cell_of_row w2 (w.heap.size + 3) 7 _ _ _ y
  have bf (i : Nat) : w2.frozen? ⟨w.heap.size + 3, i, none⟩ = false := frozen_of_row w2 (w.heap.size + 3) i _ _ y
  clear y
  go_wp2_with fail
  refine bodyPost_ret (v := .agg #[.slice none 0 0, .int .i64 0, .int .i64 0, .int .i64 0, .int .u64 0, .int .u64 0, .int .i64 0, .int .i64 0]) (by simp [results, Tryz.results11, go_sem, b0, b1, b2, b3, b4, b5, b6, b7]) rfl ⟨_, _, rfl, ?_, ?_⟩
  · exact Or.inl ⟨rfl, rfl, rfl⟩
  · iterate 8 (refine Below.set ?_ _ _ _ (by omega))
    exact (((((Below.refl _ w).alloc (Nat.le_refl _) _).alloc (by simp only [alloc_size]; omega) _).alloc (by simp only [alloc_size]; omega) _).alloc (by simp only [alloc_size]; omega) _).trans (hb2.mono (by simp only [alloc_size]; omega))
set_option maxHeartbeats 1600000 in
theorem laneReserve_yes (L : Ln) (ao : Option Addr) (cap : Nat) (at1 b : Int) (ha0 : 0 ≤ at1) (ha1 : at1 ≤ 18446744073709551615) (w : World) (hf : L.fits) (hr : Rd w ao L.key) (hb : blkB b = true) (h1 : L.send ≤ at1) (h2 : at1 ≤ 18446744073709551614) (hok : L.ok = true) :
   Calls Tryz.prog 11 #[L.val ao cap, .int .u64 at1, .int .i64 b] w fun e w' => ∃ ao' cap', e = .returned ((reserveL L at1 b).val ao' cap') ∧ Mine w' w.heap.size 5 ao' cap' (reserveL L at1 b).key ∧ Below w.heap.size w w' := by
  obtain ⟨hl, hcur0, hcur1, hnext0, hnext1, hsend0, hsend1, hceil0, hceil1, hs⟩ := hf
  obtain ⟨key, side, cur, next, send, ceil, sec, nano⟩ := L
  unfold Ln.val
  simp only at hl hcur0 hcur1 hnext0 hnext1 hsend0 hsend1 hceil0 hceil1 hs hr h1 h2 hok ⊢
  have hy : reserveL ⟨key, side, cur, next, send, ceil, sec, nano⟩ at1 b = Ln.keep ⟨key, side, cur, next, send, ceil, sec, nano⟩ cur next (upF at1 b) ceil sec nano := by
    have : mayR ⟨key, side, cur, next, send, ceil, sec, nano⟩ at1 b = true := by simp [mayR, hb, hok, h1, h2]
    simp [reserveL, this]
  rw [hy]
  have HB := Lib.hid (show blkB b = true from hb)
  have HK := Lib.hid hok
  clear hb hy hok
  unfold Ln.keep
  go_enter Tryz.func11, Tryz.ntmps11
  go_wp2_with fail
  refine (laneBlock b _).mono ?_
  rintro e w1 ⟨rfl, rfl⟩
  rw [HB.out]
  go_wp2_with fail
  refine (laneChanged1 ⟨key, side, cur, next, send, ceil, sec, nano⟩ cur next (upF at1 b) ceil sec nano ao cap 31 _ _ hs HK.out ?hrw (fun _ _ => rfl) ?hclo).mono ?_
  case hrw => exact hr.on (((((Below.refl _ w).alloc (Nat.le_refl _) _).alloc (by simp only [alloc_size]; omega) _).alloc (by simp only [alloc_size]; omega) _).alloc (by simp only [alloc_size]; omega) _)
  case hclo =>
    intro W g ar cr hB hg hx
    exact cloReserve W g ar cr key side cur next send ceil sec nano hx (w.heap.size + 1) at1 (w.heap.size + 2) b (by have h := hg; simp only [alloc_size] at h; omega) ((hB.cell (by simp only [alloc_size]; omega)).trans (by go_simp)) ha0 ha1 (by have h := hg; simp only [alloc_size] at h; omega) ((hB.cell (by simp only [alloc_size]; omega)).trans (by go_simp))
  rintro e w2 ⟨ar, cr, he, hm, hb2⟩
  obtain rfl : e = .returned (.agg #[.slice ar key.length cr, .int .i64 side, .int .i64 cur, .int .i64 next, .int .u64 (upF at1 b), .int .u64 ceil, .int .i64 sec, .int .i64 nano]) := he
  have y : w2.heap[w.heap.size + 3]? = some (.cells #[.slice none 0 0, .int .i64 0, .int .i64 0, .int .i64 0, .int .u64 0, .int .u64 0, .int .i64 0, .int .i64 0] 27 (0, 0)) := (hb_block hb2 (w.heap.size + 3) (by simp only [alloc_size]; omega)).trans (by simp only [alloc_get, alloc_size]; repeat first | rw [if_pos trivial] | rw [if_neg (by omega)] | rw [if_pos (by omega)])
  have b0 : w2.cell? ⟨w.heap.size + 3, 0, none⟩ = some (.slice none 0 0) := cell_of_row w2 (w.heap.size + 3) 0 _ _ _ y
  have b1 : w2.cell? ⟨w.heap.size + 3, 1, none⟩ = some (.int .i64 0) := cell_of_row w2 (w.heap.size + 3) 1 _ _ _ y
  have b2 : w2.cell? ⟨w.heap.size + 3, 2, none⟩ = some (.int .i64 0) := cell_of_row w2 (w.heap.size + 3) 2 _ _ _ y
  have b3 : w2.cell? ⟨w.heap.size + 3, 3, none⟩ = some (.int .i64 0) := cell_of_row w2 (w.heap.size + 3) 3 _ _ _ y
  have b4 : w2.cell? ⟨w.heap.size + 3, 4, none⟩ = some (.int .u64 0) := cell_of_row w2 (w.heap.size + 3) 4 _ _ _ y
  have b5 : w2.cell? ⟨w.heap.size + 3, 5, none⟩ = some (.int .u64 0) := cell_of_row w2 (w.heap.size + 3) 5 _ _ _ y
  have b6 : w2.cell? ⟨w.heap.size + 3, 6, none⟩ = some (.int .i64 0) := cell_of_row w2 (w.heap.size + 3) 6 _ _ _ y
  have b7 : w2.cell? ⟨w.heap.size + 3, 7, none⟩ = some (.int .i64 0) := cell_of_row w2 (w.heap.size + 3) 7 _ _ _ y
  have bf (i : Nat) : w2.frozen? ⟨w.heap.size + 3, i, none⟩ = false := frozen_of_row w2 (w.heap.size + 3) i _ _ y
  clear y
  go_wp2_with fail
  refine bodyPost_ret (v := .agg #[.slice ar key.length cr, .int .i64 side, .int .i64 cur, .int .i64 next, .int .u64 (upF at1 b), .int .u64 ceil, .int .i64 sec, .int .i64 nano]) (by simp [results, Tryz.results11, go_sem, b0, b1, b2, b3, b4, b5, b6, b7]) rfl ⟨_, _, rfl, ?_, ?_⟩
  · refine Mine.from (B := w.heap.size + 4) ?_ (by omega)
    iterate 8 (refine Mine.setCell ?_ _ _ _ (by omega))
    exact Mine.from hm (by simp only [alloc_size]; omega)
  · iterate 8 (refine Below.set ?_ _ _ _ (by omega))
    exact (((((Below.refl _ w).alloc (Nat.le_refl _) _).alloc (by simp only [alloc_size]; omega) _).alloc (by simp only [alloc_size]; omega) _).alloc (by simp only [alloc_size]; omega) _).trans (hb2.mono (by simp only [alloc_size]; omega))
set_option maxHeartbeats 1600000 in
theorem laneReserve (L : Ln) (ao : Option Addr) (cap : Nat) (at1 b : Int) (ha0 : 0 ≤ at1) (ha1 : at1 ≤ 18446744073709551615) (w : World) (hf : L.fits) (hr : Rd w ao L.key) :
   Calls Tryz.prog 11 #[L.val ao cap, .int .u64 at1, .int .i64 b] w fun e w' => ∃ ao' cap', e = .returned ((reserveL L at1 b).val ao' cap') ∧ Mine w' w.heap.size 5 ao' cap' (reserveL L at1 b).key ∧ Below w.heap.size w w' := by
  by_cases hb : blkB b = true
  · by_cases h1 : L.send ≤ at1
    · by_cases h2 : at1 ≤ 18446744073709551614
      · by_cases hok : L.ok = true
        · exact laneReserve_yes L ao cap at1 b ha0 ha1 w hf hr hb h1 h2 hok
        · exact laneReserve_no L ao cap at1 b ha0 ha1 w hf hr hb h1 h2 (by simpa using hok)
      · exact laneReserve_n2 L ao cap at1 b ha0 ha1 w hf hr hb h1 h2
    · exact laneReserve_n1 L ao cap at1 b ha0 ha1 w hf hr hb  h1
  · have hb : blkB b = false := by simpa using hb
    exact laneReserve_n0 L ao cap at1 b ha0 ha1 w hf hr hb
def newL (key : List (BitVec 8)) (side : Int) : Ln := if Ln.ok ⟨key, side, 1, 0, 0, 0, 0, 0⟩ = true then ⟨key, side, 1, 0, 0, 0, 0, 0⟩ else Ln.zero
def topG (L : Ln) : Int := if L.cur < L.next then L.next else L.cur
def nextG (L : Ln) : Int := if L.ok = true then (if 2147483647 ≤ topG L then 0 else topG L + 1) else 0
def nextE (L : Ln) : Int := if L.ok = true then (if 2147483647 ≤ topG L then 168 else 0) else 2
def againL (L : Ln) : Ln := if nextE L = 0 then L.keep (nextG L) L.next 0 0 L.sec L.nano else Ln.zero
def proposeL (L : Ln) : Ln := if nextE L = 0 then L.keep L.cur (nextG L) L.send L.ceil L.sec L.nano else Ln.zero
theorem nextE_ok {L : Ln} (h : nextE L = 0) : L.ok = true := by
  unfold nextE at h
  by_cases hk : L.ok = true
  · exact hk
  · rw [if_neg hk] at h; omega
set_option maxHeartbeats 1600000 in
theorem laneNew (key : List (BitVec 8)) (side : Int) (ao : Option Addr) (cap : Nat) (w : World) (hr : Rd w ao key) :
   Calls Tryz.prog 10 #[.slice ao key.length cap, .int .i64 side] w fun e w' => ∃ ao' cap', e = .returned ((newL key side).val ao' cap') ∧ Mine w' w.heap.size 5 ao' cap' (newL key side).key ∧ Below w.heap.size w w' := by
  by_cases hok : Ln.ok ⟨key, side, 1, 0, 0, 0, 0, 0⟩ = true
  · have hy : newL key side = ⟨key, side, 1, 0, 0, 0, 0, 0⟩ := by simp [newL, hok]
    rw [hy]
    unfold Ln.val
    have HK := Lib.hid hok
    clear hok hy
    go_enter Tryz.func10, Tryz.ntmps10
    go_wp2_with fail
    refine (laneChanged1 ⟨key, side, 1, 0, 0, 0, 0, 0⟩ 1 0 0 0 0 0 ao cap 30 _ _ (by simp) HK.out ?hrw (fun _ _ => rfl) ?hclo).mono ?_
    case hrw => exact hr.on ((Below.refl _ w).alloc (Nat.le_refl _) _)
    case hclo =>
      intro W g ar cr hB hg hx
      exact cloNew W g ar cr key side 1 0 0 0 0 0 hx
    rintro e w2 ⟨ar, cr, he, hm, hb2⟩
    obtain rfl : e = .returned (.agg #[.slice ar key.length cr, .int .i64 side, .int .i64 1, .int .i64 0, .int .u64 0, .int .u64 0, .int .i64 0, .int .i64 0]) := he
    have y : w2.heap[w.heap.size]? = some (.cells #[.slice none 0 0, .int .i64 0, .int .i64 0, .int .i64 0, .int .u64 0, .int .u64 0, .int .i64 0, .int .i64 0] 27 (0, 0)) := (hb_block hb2 (w.heap.size) (by simp only [alloc_size]; omega)).trans (by simp only [alloc_get]; repeat first | rw [if_pos trivial] | rw [if_neg (by omega)] | rw [if_pos (by omega)])
    have b0 : w2.cell? ⟨w.heap.size, 0, none⟩ = some (.slice none 0 0) := cell_of_row w2 (w.heap.size) 0 _ _ _ y
    have b1 : w2.cell? ⟨w.heap.size, 1, none⟩ = some (.int .i64 0) := cell_of_row w2 (w.heap.size) 1 _ _ _ y
    have b2 : w2.cell? ⟨w.heap.size, 2, none⟩ = some (.int .i64 0) := cell_of_row w2 (w.heap.size) 2 _ _ _ y
    have b3 : w2.cell? ⟨w.heap.size, 3, none⟩ = some (.int .i64 0) := cell_of_row w2 (w.heap.size) 3 _ _ _ y
    have b4 : w2.cell? ⟨w.heap.size, 4, none⟩ = some (.int .u64 0) := cell_of_row w2 (w.heap.size) 4 _ _ _ y
    have b5 : w2.cell? ⟨w.heap.size, 5, none⟩ = some (.int .u64 0) := cell_of_row w2 (w.heap.size) 5 _ _ _ y
    have b6 : w2.cell? ⟨w.heap.size, 6, none⟩ = some (.int .i64 0) := cell_of_row w2 (w.heap.size) 6 _ _ _ y
    have b7 : w2.cell? ⟨w.heap.size, 7, none⟩ = some (.int .i64 0) := cell_of_row w2 (w.heap.size) 7 _ _ _ y
    have bf (i : Nat) : w2.frozen? ⟨w.heap.size, i, none⟩ = false := frozen_of_row w2 (w.heap.size) i _ _ y
    clear y
    go_wp2_with fail
    refine bodyPost_ret (v := .agg #[.slice ar key.length cr, .int .i64 side, .int .i64 1, .int .i64 0, .int .u64 0, .int .u64 0, .int .i64 0, .int .i64 0]) (by simp [results, Tryz.results10, go_sem, b0, b1, b2, b3, b4, b5, b6, b7]) rfl ⟨_, _, rfl, ?_, ?_⟩
    · refine Mine.from (B := w.heap.size + 1) ?_ (by omega)
      iterate 8 (refine Mine.setCell ?_ _ _ _ (by omega))
      exact Mine.from hm (by simp only [alloc_size]; omega)
    · iterate 8 (refine Below.set ?_ _ _ _ (by omega))
      exact ((Below.refl _ w).alloc (Nat.le_refl _) _).trans (hb2.mono (by simp only [alloc_size]; omega))
  · have hok' : Ln.ok ⟨key, side, 1, 0, 0, 0, 0, 0⟩ = false := by simpa using hok
    have hy : newL key side = Ln.zero := by simp [newL, hok']
    rw [hy]
    unfold Ln.zero Ln.val
    have HK := Lib.hid (show (true && Ln.ok ⟨key, side, 1, 0, 0, 0, 0, 0⟩) = false from by rw [hok']; rfl)
    clear hok hy hok'
    go_enter Tryz.func10, Tryz.ntmps10
    go_wp2_with fail
    refine (laneChanged0 ⟨key, side, 1, 0, 0, 0, 0, 0⟩ ao cap true _ _ (by simp) HK.out).mono ?_
    rintro e w2 ⟨he, hb2⟩
    obtain rfl : e = .returned (.agg #[.slice none 0 0, .int .i64 0, .int .i64 0, .int .i64 0, .int .u64 0, .int .u64 0, .int .i64 0, .int .i64 0]) := he
    have y : w2.heap[w.heap.size]? = some (.cells #[.slice none 0 0, .int .i64 0, .int .i64 0, .int .i64 0, .int .u64 0, .int .u64 0, .int .i64 0, .int .i64 0] 27 (0, 0)) := (hb_block hb2 (w.heap.size) (by simp only [alloc_size]; omega)).trans (by simp only [alloc_get]; repeat first | rw [if_pos trivial] | rw [if_neg (by omega)] | rw [if_pos (by omega)])
    have b0 : w2.cell? ⟨w.heap.size, 0, none⟩ = some (.slice none 0 0) := cell_of_row w2 (w.heap.size) 0 _ _ _ y
    have b1 : w2.cell? ⟨w.heap.size, 1, none⟩ = some (.int .i64 0) := cell_of_row w2 (w.heap.size) 1 _ _ _ y
    have b2 : w2.cell? ⟨w.heap.size, 2, none⟩ = some (.int .i64 0) := cell_of_row w2 (w.heap.size) 2 _ _ _ y
    have b3 : w2.cell? ⟨w.heap.size, 3, none⟩ = some (.int .i64 0) := cell_of_row w2 (w.heap.size) 3 _ _ _ y
    have b4 : w2.cell? ⟨w.heap.size, 4, none⟩ = some (.int .u64 0) := cell_of_row w2 (w.heap.size) 4 _ _ _ y
    have b5 : w2.cell? ⟨w.heap.size, 5, none⟩ = some (.int .u64 0) := cell_of_row w2 (w.heap.size) 5 _ _ _ y
    have b6 : w2.cell? ⟨w.heap.size, 6, none⟩ = some (.int .i64 0) := cell_of_row w2 (w.heap.size) 6 _ _ _ y
    have b7 : w2.cell? ⟨w.heap.size, 7, none⟩ = some (.int .i64 0) := cell_of_row w2 (w.heap.size) 7 _ _ _ y
    have bf (i : Nat) : w2.frozen? ⟨w.heap.size, i, none⟩ = false := frozen_of_row w2 (w.heap.size) i _ _ y
    clear y
    go_wp2_with fail
    refine bodyPost_ret (v := .agg #[.slice none 0 0, .int .i64 0, .int .i64 0, .int .i64 0, .int .u64 0, .int .u64 0, .int .i64 0, .int .i64 0]) (by simp [results, Tryz.results10, go_sem, b0, b1, b2, b3, b4, b5, b6, b7]) rfl ⟨_, _, rfl, ?_, ?_⟩
    · exact Or.inl ⟨rfl, rfl, rfl⟩
    · iterate 8 (refine Below.set ?_ _ _ _ (by omega))
      exact ((Below.refl _ w).alloc (Nat.le_refl _) _).trans (hb2.mono (by simp only [alloc_size]; omega))
set_option maxHeartbeats 1600000 in
theorem laneNext (L : Ln) (ao : Option Addr) (cap : Nat) (w : World) (hf : L.fits) :
   Calls Tryz.prog 22 #[L.val ao cap] w fun e w' => e = .returned (.tuple #[.int .i64 (nextG L), .int .i64 (nextE L)]) ∧ Below w.heap.size w w' := by
  obtain ⟨hl, hcur0, hcur1, hnext0, hnext1, hsend0, hsend1, hceil0, hceil1, hs⟩ := hf
  obtain ⟨key, side, cur, next, send, ceil, sec, nano⟩ := L
  unfold Ln.val
  simp only at hl hcur0 hcur1 hnext0 hnext1 hsend0 hsend1 hceil0 hceil1 hs ⊢
  have HS := Lib.hid hs
  by_cases hok : Ln.ok ⟨key, side, cur, next, send, ceil, sec, nano⟩ = true
  · by_cases hcn : cur < next
    · by_cases hg : 2147483647 ≤ next
      · have hz : nextG ⟨key, side, cur, next, send, ceil, sec, nano⟩ = 0 := by simp [nextG, topG, hok, hcn, hg]
        have hz2 : nextE ⟨key, side, cur, next, send, ceil, sec, nano⟩ = 168 := by simp [nextE, topG, hok, hcn, hg]
        rw [hz, hz2]
        have HK := Lib.hid hok
        clear hok hz hz2
        go_enter Tryz.func22, Tryz.ntmps22
        go_wp2_with fail
        all_goals
          refine (laneValid ⟨key, side, cur, next, send, ceil, sec, nano⟩ ao cap hs _).mono ?_
          rintro e w1 ⟨rfl, hb1⟩
          rw [HK.out]
          have hB := (fresh1 w _).trans (hb1.mono (by simp only [alloc_size]; omega))
          clear hb1
          go_wp2_with fail
          go_ret2
          exact ⟨rfl, hB⟩
      · have hz : nextG ⟨key, side, cur, next, send, ceil, sec, nano⟩ = next + 1 := by simp [nextG, topG, hok, hcn, hg]
        have hz2 : nextE ⟨key, side, cur, next, send, ceil, sec, nano⟩ = 0 := by simp [nextE, topG, hok, hcn, hg]
        rw [hz, hz2]
        have HK := Lib.hid hok
        clear hok hz hz2
        go_enter Tryz.func22, Tryz.ntmps22
        go_wp2_with fail
        all_goals
          refine (laneValid ⟨key, side, cur, next, send, ceil, sec, nano⟩ ao cap hs _).mono ?_
          rintro e w1 ⟨rfl, hb1⟩
          rw [HK.out]
          have hB := (fresh1 w _).trans (hb1.mono (by simp only [alloc_size]; omega))
          clear hb1
          go_wp2_with fail
          go_ret2
          exact ⟨rfl, hB⟩
    · by_cases hg : 2147483647 ≤ cur
      · have hz : nextG ⟨key, side, cur, next, send, ceil, sec, nano⟩ = 0 := by simp [nextG, topG, hok, hcn, hg]
        have hz2 : nextE ⟨key, side, cur, next, send, ceil, sec, nano⟩ = 168 := by simp [nextE, topG, hok, hcn, hg]
        rw [hz, hz2]
        have HK := Lib.hid hok
        clear hok hz hz2
        go_enter Tryz.func22, Tryz.ntmps22
        go_wp2_with fail
        all_goals
          refine (laneValid ⟨key, side, cur, next, send, ceil, sec, nano⟩ ao cap hs _).mono ?_
          rintro e w1 ⟨rfl, hb1⟩
          rw [HK.out]
          have hB := (fresh1 w _).trans (hb1.mono (by simp only [alloc_size]; omega))
          clear hb1
          go_wp2_with fail
          go_ret2
          exact ⟨rfl, hB⟩
      · have hz : nextG ⟨key, side, cur, next, send, ceil, sec, nano⟩ = cur + 1 := by simp [nextG, topG, hok, hcn, hg]
        have hz2 : nextE ⟨key, side, cur, next, send, ceil, sec, nano⟩ = 0 := by simp [nextE, topG, hok, hcn, hg]
        rw [hz, hz2]
        have HK := Lib.hid hok
        clear hok hz hz2
        go_enter Tryz.func22, Tryz.ntmps22
        go_wp2_with fail
        all_goals
          refine (laneValid ⟨key, side, cur, next, send, ceil, sec, nano⟩ ao cap hs _).mono ?_
          rintro e w1 ⟨rfl, hb1⟩
          rw [HK.out]
          have hB := (fresh1 w _).trans (hb1.mono (by simp only [alloc_size]; omega))
          clear hb1
          go_wp2_with fail
          go_ret2
          exact ⟨rfl, hB⟩
  · have hok' : Ln.ok ⟨key, side, cur, next, send, ceil, sec, nano⟩ = false := by simpa using hok
    clear hok
    have hok := hok'
    clear hok'
    have hz : nextG ⟨key, side, cur, next, send, ceil, sec, nano⟩ = 0 := by simp [nextG, hok]
    have hz2 : nextE ⟨key, side, cur, next, send, ceil, sec, nano⟩ = 2 := by simp [nextE, hok]
    rw [hz, hz2]
    have HK := Lib.hid hok
    clear hok hz hz2
    go_enter Tryz.func22, Tryz.ntmps22
    go_wp2_with fail
    all_goals
      refine (laneValid ⟨key, side, cur, next, send, ceil, sec, nano⟩ ao cap hs _).mono ?_
      rintro e w1 ⟨rfl, hb1⟩
      rw [HK.out]
      have hB := (fresh1 w _).trans (hb1.mono (by simp only [alloc_size]; omega))
      clear hb1
      go_wp2_with fail
      go_ret2
      exact ⟨rfl, hB⟩
set_option maxHeartbeats 4000000 in
theorem laneAgain (L : Ln) (ao : Option Addr) (cap : Nat) (w : World) (hf : L.fits) (hr : Rd w ao L.key) :
   Calls Tryz.prog 6 #[L.val ao cap] w fun e w' => ∃ ao' cap', e = .returned (.tuple #[(againL L).val ao' cap', .int .i64 (nextE L)]) ∧ Mine w' w.heap.size 5 ao' cap' (againL L).key ∧ Below w.heap.size w w' := by
  obtain ⟨hl, hcur0, hcur1, hnext0, hnext1, hsend0, hsend1, hceil0, hceil1, hs⟩ := hf
  obtain ⟨key, side, cur, next, send, ceil, sec, nano⟩ := L
  unfold Ln.val
  simp only at hl hcur0 hcur1 hnext0 hnext1 hsend0 hsend1 hceil0 hceil1 hs hr ⊢
  obtain ⟨g0, hg0⟩ : ∃ g, nextG ⟨key, side, cur, next, send, ceil, sec, nano⟩ = g := ⟨_, rfl⟩
  obtain ⟨e0, he0⟩ : ∃ g, nextE ⟨key, side, cur, next, send, ceil, sec, nano⟩ = g := ⟨_, rfl⟩
  by_cases h0 : e0 = 0
  · subst h0
    have hy : againL ⟨key, side, cur, next, send, ceil, sec, nano⟩ = Ln.keep ⟨key, side, cur, next, send, ceil, sec, nano⟩ g0 next 0 0 sec nano := by simp [againL, he0, hg0]
    have HK := Lib.hid (nextE_ok he0)
    rw [hy]
    try rw [hg0]
    rw [he0]
    unfold Ln.keep
    have HG := Lib.hid hg0
    have HE := Lib.hid he0
    clear hy hg0 he0
    go_enter Tryz.func6, Tryz.ntmps6
    go_wp2_with fail
    refine (laneNext ⟨key, side, cur, next, send, ceil, sec, nano⟩ ao cap _ ⟨hl, hcur0, hcur1, hnext0, hnext1, hsend0, hsend1, hceil0, hceil1, hs⟩).mono ?_
    rintro e w1 ⟨rfl, hb1⟩
    rw [HG.out, HE.out]
    have hz := hb1.size
    simp only [alloc_size] at hz
    have hz0 : w.heap.size < w1.heap.size := by omega
    have hz1 : w.heap.size + 1 < w1.heap.size := by omega
    have x1 : w1.heap[w.heap.size]? = some (.cells #[.slice ao key.length cap, .int .i64 side, .int .i64 cur, .int .i64 next, .int .u64 send, .int .u64 ceil, .int .i64 sec, .int .i64 nano] 27 (0, 0)) := (hb_block hb1 (w.heap.size) (by simp only [alloc_size]; omega)).trans (by simp only [alloc_get, alloc_size]; repeat first | rw [if_pos trivial] | rw [if_neg (by omega)] | rw [if_pos (by omega)])
    have x2 : w1.heap[w.heap.size + 1]? = some (.cells #[.slice none 0 0, .int .i64 0, .int .i64 0, .int .i64 0, .int .u64 0, .int .u64 0, .int .i64 0, .int .i64 0] 27 (0, 0)) := (hb_block hb1 (w.heap.size + 1) (by simp only [alloc_size]; omega)).trans (by simp only [alloc_get, alloc_size]; repeat first | rw [if_pos trivial] | rw [if_neg (by omega)] | rw [if_pos (by omega)])
    have a0 : w1.cell? ⟨w.heap.size, 0, none⟩ = some (.slice ao key.length cap) := cell_of_row w1 (w.heap.size) 0 _ _ _ x1
    have a1 : w1.cell? ⟨w.heap.size, 1, none⟩ = some (.int .i64 side) := cell_of_row w1 (w.heap.size) 1 _ _ _ x1
    have a2 : w1.cell? ⟨w.heap.size, 2, none⟩ = some (.int .i64 cur) := cell_of_row w1 (w.heap.size) 2 _ _ _ x1
    have a3 : w1.cell? ⟨w.heap.size, 3, none⟩ = some (.int .i64 next) := cell_of_row w1 (w.heap.size) 3 _ _ _ x1
    have a4 : w1.cell? ⟨w.heap.size, 4, none⟩ = some (.int .u64 send) := cell_of_row w1 (w.heap.size) 4 _ _ _ x1
    have a5 : w1.cell? ⟨w.heap.size, 5, none⟩ = some (.int .u64 ceil) := cell_of_row w1 (w.heap.size) 5 _ _ _ x1
    have a6 : w1.cell? ⟨w.heap.size, 6, none⟩ = some (.int .i64 sec) := cell_of_row w1 (w.heap.size) 6 _ _ _ x1
    have a7 : w1.cell? ⟨w.heap.size, 7, none⟩ = some (.int .i64 nano) := cell_of_row w1 (w.heap.size) 7 _ _ _ x1
    have af (i : Nat) : w1.frozen? ⟨w.heap.size, i, none⟩ = false := frozen_of_row w1 (w.heap.size) i _ _ x1
    have hB1 := (((Below.refl _ w).alloc (Nat.le_refl _) _).alloc (by simp only [alloc_size]; omega) _).trans (hb1.mono (by simp only [alloc_size]; omega))
    clear hb1
    go_wp2_with fail
    refine (laneChanged1 ⟨key, side, cur, next, send, ceil, sec, nano⟩ g0 next 0 0 sec nano ao cap 24 _ _ hs HK.out ?hrw (fun _ _ => rfl) ?hclo).mono ?_
    case hrw => exact (hr.on hB1).on (fresh1 _ _)
    case hclo =>
      intro W gg ar cr hB hg hx
      exact cloAgain W gg ar cr key side cur next send ceil sec nano hx w1.heap.size g0 (by have h := hg; simp only [alloc_size] at h; omega) ((hB.cell (by simp only [alloc_size]; omega)).trans (by go_simp))
    rintro e w2 ⟨ar, cr, he, hm, hb2⟩
    obtain rfl : e = .returned (.agg #[.slice ar key.length cr, .int .i64 side, .int .i64 g0, .int .i64 next, .int .u64 0, .int .u64 0, .int .i64 sec, .int .i64 nano]) := he
    have y : w2.heap[w.heap.size + 1]? = some (.cells #[.slice none 0 0, .int .i64 0, .int .i64 0, .int .i64 0, .int .u64 0, .int .u64 0, .int .i64 0, .int .i64 0] 27 (0, 0)) := (hb2.block (w.heap.size + 1) (by simp only [alloc_size]; omega)).trans ((alloc_old _ _ _ (by omega)).trans x2)
    have b0 : w2.cell? ⟨w.heap.size + 1, 0, none⟩ = some (.slice none 0 0) := cell_of_row w2 (w.heap.size + 1) 0 _ _ _ y
    have b1 : w2.cell? ⟨w.heap.size + 1, 1, none⟩ = some (.int .i64 0) := cell_of_row w2 (w.heap.size + 1) 1 _ _ _ y
    have b2 : w2.cell? ⟨w.heap.size + 1, 2, none⟩ = some (.int .i64 0) := cell_of_row w2 (w.heap.size + 1) 2 _ _ _ y
    have b3 : w2.cell? ⟨w.heap.size + 1, 3, none⟩ = some (.int .i64 0) := cell_of_row w2 (w.heap.size + 1) 3 _ _ _ y
    have b4 : w2.cell? ⟨w.heap.size + 1, 4, none⟩ = some (.int .u64 0) := cell_of_row w2 (w.heap.size + 1) 4 _ _ _ y
    have b5 : w2.cell? ⟨w.heap.size + 1, 5, none⟩ = some (.int .u64 0) := cell_of_row w2 (w.heap.size + 1) 5 _ _ _ y
    have b6 : w2.cell? ⟨w.heap.size + 1, 6, none⟩ = some (.int .i64 0) := cell_of_row w2 (w.heap.size + 1) 6 _ _ _ y
    have b7 : w2.cell? ⟨w.heap.size + 1, 7, none⟩ = some (.int .i64 0) := cell_of_row w2 (w.heap.size + 1) 7 _ _ _ y
    have bf (i : Nat) : w2.frozen? ⟨w.heap.size + 1, i, none⟩ = false := frozen_of_row w2 (w.heap.size + 1) i _ _ y
    clear y
    go_wp2_with fail
    refine bodyPost_ret (v := .tuple #[.agg #[.slice ar key.length cr, .int .i64 side, .int .i64 g0, .int .i64 next, .int .u64 0, .int .u64 0, .int .i64 sec, .int .i64 nano], .int .i64 0]) (by simp [results, Tryz.results6, go_sem, b0, b1, b2, b3, b4, b5, b6, b7]) rfl ⟨_, _, rfl, ?_, ?_⟩
    · refine Mine.from (B := w.heap.size + 2) ?_ (by omega)
      iterate 8 (refine Mine.setCell ?_ _ _ _ (by omega))
      exact Mine.from hm (by simp only [alloc_size]; omega)
    · iterate 8 (refine Below.set ?_ _ _ _ (by omega))
      exact (hB1.alloc (by omega) _).trans (hb2.mono (by simp only [alloc_size]; omega))
  · have hy : againL ⟨key, side, cur, next, send, ceil, sec, nano⟩ = Ln.zero := by simp [againL, he0, h0]
    have h0b : (e0 == 0) = false := beq_eq_false_iff_ne.2 h0
    rw [hy]
    try rw [hg0]
    rw [he0]
    unfold Ln.zero
    have HG := Lib.hid hg0
    have HE := Lib.hid he0
    clear hy hg0 he0 h0
    go_enter Tryz.func6, Tryz.ntmps6
    go_wp2_with fail
    refine (laneNext ⟨key, side, cur, next, send, ceil, sec, nano⟩ ao cap _ ⟨hl, hcur0, hcur1, hnext0, hnext1, hsend0, hsend1, hceil0, hceil1, hs⟩).mono ?_
    rintro e w1 ⟨rfl, hb1⟩
    rw [HG.out, HE.out]
    have hz := hb1.size
    simp only [alloc_size] at hz
    have hz0 : w.heap.size < w1.heap.size := by omega
    have hz1 : w.heap.size + 1 < w1.heap.size := by omega
    have x1 : w1.heap[w.heap.size]? = some (.cells #[.slice ao key.length cap, .int .i64 side, .int .i64 cur, .int .i64 next, .int .u64 send, .int .u64 ceil, .int .i64 sec, .int .i64 nano] 27 (0, 0)) := (hb_block hb1 (w.heap.size) (by simp only [alloc_size]; omega)).trans (by simp only [alloc_get, alloc_size]; repeat first | rw [if_pos trivial] | rw [if_neg (by omega)] | rw [if_pos (by omega)])
    have x2 : w1.heap[w.heap.size + 1]? = some (.cells #[.slice none 0 0, .int .i64 0, .int .i64 0, .int .i64 0, .int .u64 0, .int .u64 0, .int .i64 0, .int .i64 0] 27 (0, 0)) := (hb_block hb1 (w.heap.size + 1) (by simp only [alloc_size]; omega)).trans (by simp only [alloc_get, alloc_size]; repeat first | rw [if_pos trivial] | rw [if_neg (by omega)] | rw [if_pos (by omega)])
    have a0 : w1.cell? ⟨w.heap.size, 0, none⟩ = some (.slice ao key.length cap) := cell_of_row w1 (w.heap.size) 0 _ _ _ x1
    have a1 : w1.cell? ⟨w.heap.size, 1, none⟩ = some (.int .i64 side) := cell_of_row w1 (w.heap.size) 1 _ _ _ x1
    have a2 : w1.cell? ⟨w.heap.size, 2, none⟩ = some (.int .i64 cur) := cell_of_row w1 (w.heap.size) 2 _ _ _ x1
    have a3 : w1.cell? ⟨w.heap.size, 3, none⟩ = some (.int .i64 next) := cell_of_row w1 (w.heap.size) 3 _ _ _ x1
    have a4 : w1.cell? ⟨w.heap.size, 4, none⟩ = some (.int .u64 send) := cell_of_row w1 (w.heap.size) 4 _ _ _ x1
    have a5 : w1.cell? ⟨w.heap.size, 5, none⟩ = some (.int .u64 ceil) := cell_of_row w1 (w.heap.size) 5 _ _ _ x1
    have a6 : w1.cell? ⟨w.heap.size, 6, none⟩ = some (.int .i64 sec) := cell_of_row w1 (w.heap.size) 6 _ _ _ x1
    have a7 : w1.cell? ⟨w.heap.size, 7, none⟩ = some (.int .i64 nano) := cell_of_row w1 (w.heap.size) 7 _ _ _ x1
    have af (i : Nat) : w1.frozen? ⟨w.heap.size, i, none⟩ = false := frozen_of_row w1 (w.heap.size) i _ _ x1
    have hB1 := (((Below.refl _ w).alloc (Nat.le_refl _) _).alloc (by simp only [alloc_size]; omega) _).trans (hb1.mono (by simp only [alloc_size]; omega))
    clear hb1
    go_wp2_with fail
    refine (laneChanged0 ⟨key, side, cur, next, send, ceil, sec, nano⟩ ao cap false _ _ hs (by simp)).mono ?_
    rintro e w2 ⟨he, hb2⟩
    obtain rfl : e = .returned (.agg #[.slice none 0 0, .int .i64 0, .int .i64 0, .int .i64 0, .int .u64 0, .int .u64 0, .int .i64 0, .int .i64 0]) := he
    have y : w2.heap[w.heap.size + 1]? = some (.cells #[.slice none 0 0, .int .i64 0, .int .i64 0, .int .i64 0, .int .u64 0, .int .u64 0, .int .i64 0, .int .i64 0] 27 (0, 0)) := (hb2.block (w.heap.size + 1) (by simp only [alloc_size]; omega)).trans ((alloc_old _ _ _ (by omega)).trans x2)
    have b0 : w2.cell? ⟨w.heap.size + 1, 0, none⟩ = some (.slice none 0 0) := cell_of_row w2 (w.heap.size + 1) 0 _ _ _ y
    have b1 : w2.cell? ⟨w.heap.size + 1, 1, none⟩ = some (.int .i64 0) := cell_of_row w2 (w.heap.size + 1) 1 _ _ _ y
    have b2 : w2.cell? ⟨w.heap.size + 1, 2, none⟩ = some (.int .i64 0) := cell_of_row w2 (w.heap.size + 1) 2 _ _ _ y
    have b3 : w2.cell? ⟨w.heap.size + 1, 3, none⟩ = some (.int .i64 0) := cell_of_row w2 (w.heap.size + 1) 3 _ _ _ y
    have b4 : w2.cell? ⟨w.heap.size + 1, 4, none⟩ = some (.int .u64 0) := cell_of_row w2 (w.heap.size + 1) 4 _ _ _ y
    have b5 : w2.cell? ⟨w.heap.size + 1, 5, none⟩ = some (.int .u64 0) := cell_of_row w2 (w.heap.size + 1) 5 _ _ _ y
    have b6 : w2.cell? ⟨w.heap.size + 1, 6, none⟩ = some (.int .i64 0) := cell_of_row w2 (w.heap.size + 1) 6 _ _ _ y
    have b7 : w2.cell? ⟨w.heap.size + 1, 7, none⟩ = some (.int .i64 0) := cell_of_row w2 (w.heap.size + 1) 7 _ _ _ y
    have bf (i : Nat) : w2.frozen? ⟨w.heap.size + 1, i, none⟩ = false := frozen_of_row w2 (w.heap.size + 1) i _ _ y
    clear y
    go_wp2_with fail
    refine bodyPost_ret (v := .tuple #[.agg #[.slice none 0 0, .int .i64 0, .int .i64 0, .int .i64 0, .int .u64 0, .int .u64 0, .int .i64 0, .int .i64 0], .int .i64 e0]) (by simp [results, Tryz.results6, go_sem, b0, b1, b2, b3, b4, b5, b6, b7]) rfl ⟨_, _, rfl, ?_, ?_⟩
    · exact Or.inl ⟨rfl, rfl, rfl⟩
    · iterate 8 (refine Below.set ?_ _ _ _ (by omega))
      exact (hB1.alloc (by omega) _).trans (hb2.mono (by simp only [alloc_size]; omega))
end Go.Proofs.YtjlhnepjpjlppaaGreatDoor
