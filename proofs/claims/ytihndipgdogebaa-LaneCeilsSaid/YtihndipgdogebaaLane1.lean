/- A lane as the walk sees it; what may be: Valid of the program and of the reference. -/
import Derived.Test.YtihndipgdogebaaProg
import Derived.Test.YtihndipgdogebaaMem
namespace Go.Proofs.Ytihndipgdogebaa
open Go.RowKit
/-- A lane but for where its key lies. -/
structure Ln where
  key : List (BitVec 8)
  side : Int
  cur : Int
  next : Int
  send : Int
  ceil : Int
  sec : Int
  nano : Int
/-- Its value. -/
def Ln.val (L : Ln) (ao : Option Addr) (cap : Nat) : Value :=
  .agg #[.slice ao L.key.length cap, .int .i64 L.side, .int .i64 L.cur, .int .i64 L.next, .int .u64 L.send, .int .u64 L.ceil, .int .i64 L.sec, .int .i64 L.nano]
def stampB (sec nano : Int) : Bool := decide (0 ≤ sec) && decide (0 ≤ nano) && decide (nano ≤ 999999999)
def Ln.ok (L : Ln) : Bool := decide (L.key.length = 32) && (decide (0 ≤ L.side) && decide (L.side ≤ 1)) && (decide (1 ≤ L.cur) && decide (L.cur ≤ 2147483647) && decide (0 ≤ L.next) && decide (L.next ≤ 2147483647)) && stampB L.sec L.nano
theorem fresh1 (w : World) (o : Obj) : Below w.heap.size w (w.alloc o) := (Below.refl _ w).alloc (Nat.le_refl _) o
/-- A struct laid in memory reads so behind a call. -/
theorem box_cell {w w1 : World} {cs : Array Value} {t : TypeId} (hb : Below (w.alloc (.cells cs t)).heap.size (w.alloc (.cells cs t)) w1) (i : Nat) : w1.cell? ⟨w.heap.size, i, none⟩ = cs[i]? := by
  rw [cell_of_row w1 w.heap.size i cs t (0, 0) ((hb.block _ (by show _ < (w.heap.push _).size; simp)).trans (heap_alloc_new w _))]
theorem stampValid (sec nano : Int) (hs : sec ≤ 9223372036854775807) (w : World) : Calls Try.prog 44 #[.agg #[.int .i64 sec, .int .i64 nano]] w fun e w' => e = .returned (.bool (stampB sec nano)) ∧ Below w.heap.size w w' := by
  by_cases h1 : 0 ≤ sec
  · by_cases h2 : 0 ≤ nano
    · have hb : stampB sec nano = decide (nano ≤ 999999999) := by simp [stampB, h1, h2]
      rw [hb]
      go_enter Try.func44, Try.ntmps44
      go_wp2
      go_ret
      exact ⟨rfl, fresh1 _ _⟩
    · have hb : stampB sec nano = false := by simp [stampB, h2]
      rw [hb]
      go_enter Try.func44, Try.ntmps44
      go_wp2
      go_ret
      exact ⟨rfl, fresh1 _ _⟩
  · have hb : stampB sec nano = false := by simp [stampB, h1]
    rw [hb]
    go_enter Try.func44, Try.ntmps44
    go_wp2
    go_ret
    exact ⟨rfl, fresh1 _ _⟩
theorem refStampValid (sec nano : Int) (w : World) : Calls Try.prog 45 #[.agg #[.int .i64 sec, .int .i64 nano]] w fun e w' => e = .returned (.bool (stampB sec nano)) ∧ Below w.heap.size w w' := by
  by_cases h1 : 0 ≤ sec
  · by_cases h2 : 0 ≤ nano
    · have hb : stampB sec nano = decide (nano ≤ 999999999) := by simp [stampB, h1, h2]
      rw [hb]
      go_enter Try.func45, Try.ntmps45
      go_wp2
      go_ret
      exact ⟨rfl, fresh1 _ _⟩
    · have hb : stampB sec nano = false := by simp [stampB, h2]
      rw [hb]
      go_enter Try.func45, Try.ntmps45
      go_wp2
      go_ret
      exact ⟨rfl, fresh1 _ _⟩
  · have hb : stampB sec nano = false := by simp [stampB, h1]
    rw [hb]
    go_enter Try.func45, Try.ntmps45
    go_wp2
    go_ret
    exact ⟨rfl, fresh1 _ _⟩
theorem laneValid (L : Ln) (ao : Option Addr) (cap : Nat) (hs : L.sec ≤ 9223372036854775807) (w : World) : Calls Try.prog 14 #[L.val ao cap] w fun e w' => e = .returned (.bool L.ok) ∧ Below w.heap.size w w' := by
  obtain ⟨key, side, cur, next, send, ceil, sec, nano⟩ := L
  unfold Ln.val
  simp only at hs ⊢
  by_cases hk : key.length = 32
  · have hkb : ((key.length : Int) == 32) = true := by rw [beq_iff_eq]; omega
    by_cases hs0 : side = 0
    · subst hs0
      by_cases h1 : 1 ≤ cur
      · by_cases h2 : cur ≤ 2147483647
        · by_cases h3 : 0 ≤ next
          · by_cases h4 : next ≤ 2147483647
            · have hb : Ln.ok ⟨key, 0, cur, next, send, ceil, sec, nano⟩ = stampB sec nano := by simp [Ln.ok, hk, h1, h2, h3, h4]
              rw [hb]
              have Hb := Lib.hid hb
              clear hb
              go_enter Try.func14, Try.ntmps14
              go_wp2_with fail
              refine (stampValid sec nano hs _).mono ?_
              rintro e w1 ⟨rfl, hb1⟩
              have hB := (fresh1 w _).trans (hb1.mono (by show _ ≤ (w.heap.push _).size; simp))
              clear hb1
              go_wp2
              go_ret
              exact ⟨rfl, hB⟩
            · have hb : Ln.ok ⟨key, 0, cur, next, send, ceil, sec, nano⟩ = false := by simp [Ln.ok]; intros; omega
              rw [hb]
              have Hb := Lib.hid hb
              clear hb
              go_enter Try.func14, Try.ntmps14
              go_wp2
              go_ret
              exact ⟨rfl, fresh1 _ _⟩
          · have hb : Ln.ok ⟨key, 0, cur, next, send, ceil, sec, nano⟩ = false := by simp [Ln.ok]; intros; omega
            rw [hb]
            have Hb := Lib.hid hb
            clear hb
            go_enter Try.func14, Try.ntmps14
            go_wp2
            go_ret
            exact ⟨rfl, fresh1 _ _⟩
        · have hb : Ln.ok ⟨key, 0, cur, next, send, ceil, sec, nano⟩ = false := by simp [Ln.ok]; intros; omega
          rw [hb]
          have Hb := Lib.hid hb
          clear hb
          go_enter Try.func14, Try.ntmps14
          go_wp2
          go_ret
          exact ⟨rfl, fresh1 _ _⟩
      · have hb : Ln.ok ⟨key, 0, cur, next, send, ceil, sec, nano⟩ = false := by simp [Ln.ok]; intros; omega
        rw [hb]
        have Hb := Lib.hid hb
        clear hb
        go_enter Try.func14, Try.ntmps14
        go_wp2
        go_ret
        exact ⟨rfl, fresh1 _ _⟩
    · have hs0b : (side == 0) = false := beq_eq_false_iff_ne.2 hs0
      by_cases hs1 : side = 1
      · subst hs1
        by_cases h1 : 1 ≤ cur
        · by_cases h2 : cur ≤ 2147483647
          · by_cases h3 : 0 ≤ next
            · by_cases h4 : next ≤ 2147483647
              · have hb : Ln.ok ⟨key, 1, cur, next, send, ceil, sec, nano⟩ = stampB sec nano := by simp [Ln.ok, hk, h1, h2, h3, h4]
                rw [hb]
                have Hb := Lib.hid hb
                clear hb
                go_enter Try.func14, Try.ntmps14
                go_wp2_with fail
                refine (stampValid sec nano hs _).mono ?_
                rintro e w1 ⟨rfl, hb1⟩
                have hB := (fresh1 w _).trans (hb1.mono (by show _ ≤ (w.heap.push _).size; simp))
                clear hb1
                go_wp2
                go_ret
                exact ⟨rfl, hB⟩
              · have hb : Ln.ok ⟨key, 1, cur, next, send, ceil, sec, nano⟩ = false := by simp [Ln.ok]; intros; omega
                rw [hb]
                have Hb := Lib.hid hb
                clear hb
                go_enter Try.func14, Try.ntmps14
                go_wp2
                go_ret
                exact ⟨rfl, fresh1 _ _⟩
            · have hb : Ln.ok ⟨key, 1, cur, next, send, ceil, sec, nano⟩ = false := by simp [Ln.ok]; intros; omega
              rw [hb]
              have Hb := Lib.hid hb
              clear hb
              go_enter Try.func14, Try.ntmps14
              go_wp2
              go_ret
              exact ⟨rfl, fresh1 _ _⟩
          · have hb : Ln.ok ⟨key, 1, cur, next, send, ceil, sec, nano⟩ = false := by simp [Ln.ok]; intros; omega
            rw [hb]
            have Hb := Lib.hid hb
            clear hb
            go_enter Try.func14, Try.ntmps14
            go_wp2
            go_ret
            exact ⟨rfl, fresh1 _ _⟩
        · have hb : Ln.ok ⟨key, 1, cur, next, send, ceil, sec, nano⟩ = false := by simp [Ln.ok]; intros; omega
          rw [hb]
          have Hb := Lib.hid hb
          clear hb
          go_enter Try.func14, Try.ntmps14
          go_wp2
          go_ret
          exact ⟨rfl, fresh1 _ _⟩
      · have hs1b : (side == 1) = false := beq_eq_false_iff_ne.2 hs1
        have hb : Ln.ok ⟨key, side, cur, next, send, ceil, sec, nano⟩ = false := by simp [Ln.ok]; intros; omega
        rw [hb]
        have Hb := Lib.hid hb
        clear hb
        go_enter Try.func14, Try.ntmps14
        go_wp2
        go_ret
        exact ⟨rfl, fresh1 _ _⟩
  · have hkb : ((key.length : Int) == 32) = false := by rw [beq_eq_false_iff_ne]; omega
    have hb : Ln.ok ⟨key, side, cur, next, send, ceil, sec, nano⟩ = false := by simp [Ln.ok]; intros; omega
    rw [hb]
    have Hb := Lib.hid hb
    clear hb
    go_enter Try.func14, Try.ntmps14
    go_wp2
    go_ret
    exact ⟨rfl, fresh1 _ _⟩
theorem refLaneValid (L : Ln) (ao : Option Addr) (cap : Nat) (w : World) : Calls Try.prog 15 #[L.val ao cap] w fun e w' => e = .returned (.bool L.ok) ∧ Below w.heap.size w w' := by
  obtain ⟨key, side, cur, next, send, ceil, sec, nano⟩ := L
  unfold Ln.val
  simp only
  by_cases hst : stampB sec nano = true
  · by_cases h1 : 1 ≤ cur
    · by_cases h2 : cur ≤ 2147483647
      · by_cases h3 : 0 ≤ next
        · by_cases h4 : next ≤ 2147483647
          · by_cases h5 : key.length = 32
            · by_cases h6 : 0 ≤ side
              · by_cases h7 : side ≤ 1
                · have hkb : ((key.length : Int) == 32) = true := by rw [beq_iff_eq]; omega
                  have hb : Ln.ok ⟨key, side, cur, next, send, ceil, sec, nano⟩ = true := by simp [Ln.ok, hst, h1, h2, h3, h4, h5, h6, h7]
                  rw [hb]
                  have Hb := Lib.hid hb
                  have HT := Lib.hid hst
                  clear hb hst
                  try clear h5
                  go_enter Try.func15, Try.ntmps15
                  go_wp2_with fail
                  refine (refStampValid sec nano _).mono ?_
                  rintro e w1 ⟨rfl, hb1⟩
                  rw [HT.out]
                  have hB := (fresh1 w _).trans (hb1.mono (by show _ ≤ (w.heap.push _).size; simp))
                  have d0 : w1.cell? ⟨w.heap.size, 0, none⟩ = some (.slice ao key.length cap) := box_cell hb1 0
                  have d1 : w1.cell? ⟨w.heap.size, 1, none⟩ = some (.int .i64 side) := box_cell hb1 1
                  have d2 : w1.cell? ⟨w.heap.size, 2, none⟩ = some (.int .i64 cur) := box_cell hb1 2
                  have d3 : w1.cell? ⟨w.heap.size, 3, none⟩ = some (.int .i64 next) := box_cell hb1 3
                  clear hb1
                  go_wp2
                  all_goals go_ret
                  all_goals refine ⟨?_, hB⟩
                  all_goals first | rfl | (show Ending.returned (.bool _) = _; congr 2; simp; omega)
                · have hkb : ((key.length : Int) == 32) = true := by rw [beq_iff_eq]; omega
                  have hb : Ln.ok ⟨key, side, cur, next, send, ceil, sec, nano⟩ = false := by simp [Ln.ok]; intros; omega
                  rw [hb]
                  have Hb := Lib.hid hb
                  have HT := Lib.hid hst
                  clear hb hst
                  try clear h5
                  go_enter Try.func15, Try.ntmps15
                  go_wp2_with fail
                  refine (refStampValid sec nano _).mono ?_
                  rintro e w1 ⟨rfl, hb1⟩
                  rw [HT.out]
                  have hB := (fresh1 w _).trans (hb1.mono (by show _ ≤ (w.heap.push _).size; simp))
                  have d0 : w1.cell? ⟨w.heap.size, 0, none⟩ = some (.slice ao key.length cap) := box_cell hb1 0
                  have d1 : w1.cell? ⟨w.heap.size, 1, none⟩ = some (.int .i64 side) := box_cell hb1 1
                  have d2 : w1.cell? ⟨w.heap.size, 2, none⟩ = some (.int .i64 cur) := box_cell hb1 2
                  have d3 : w1.cell? ⟨w.heap.size, 3, none⟩ = some (.int .i64 next) := box_cell hb1 3
                  clear hb1
                  go_wp2
                  all_goals go_ret
                  all_goals refine ⟨?_, hB⟩
                  all_goals first | rfl | (show Ending.returned (.bool _) = _; congr 2; simp; omega)
              · have hkb : ((key.length : Int) == 32) = true := by rw [beq_iff_eq]; omega
                have hb : Ln.ok ⟨key, side, cur, next, send, ceil, sec, nano⟩ = false := by simp [Ln.ok]; intros; omega
                rw [hb]
                have Hb := Lib.hid hb
                have HT := Lib.hid hst
                clear hb hst
                try clear h5
                go_enter Try.func15, Try.ntmps15
                go_wp2_with fail
                refine (refStampValid sec nano _).mono ?_
                rintro e w1 ⟨rfl, hb1⟩
                rw [HT.out]
                have hB := (fresh1 w _).trans (hb1.mono (by show _ ≤ (w.heap.push _).size; simp))
                have d0 : w1.cell? ⟨w.heap.size, 0, none⟩ = some (.slice ao key.length cap) := box_cell hb1 0
                have d1 : w1.cell? ⟨w.heap.size, 1, none⟩ = some (.int .i64 side) := box_cell hb1 1
                have d2 : w1.cell? ⟨w.heap.size, 2, none⟩ = some (.int .i64 cur) := box_cell hb1 2
                have d3 : w1.cell? ⟨w.heap.size, 3, none⟩ = some (.int .i64 next) := box_cell hb1 3
                clear hb1
                go_wp2
                all_goals go_ret
                all_goals refine ⟨?_, hB⟩
                all_goals first | rfl | (show Ending.returned (.bool _) = _; congr 2; simp; omega)
            · have hkb : ((key.length : Int) == 32) = false := by rw [beq_eq_false_iff_ne]; omega
              have hb : Ln.ok ⟨key, side, cur, next, send, ceil, sec, nano⟩ = false := by simp [Ln.ok]; intros; omega
              rw [hb]
              have Hb := Lib.hid hb
              have HT := Lib.hid hst
              clear hb hst
              try clear h5
              go_enter Try.func15, Try.ntmps15
              go_wp2_with fail
              refine (refStampValid sec nano _).mono ?_
              rintro e w1 ⟨rfl, hb1⟩
              rw [HT.out]
              have hB := (fresh1 w _).trans (hb1.mono (by show _ ≤ (w.heap.push _).size; simp))
              have d0 : w1.cell? ⟨w.heap.size, 0, none⟩ = some (.slice ao key.length cap) := box_cell hb1 0
              have d1 : w1.cell? ⟨w.heap.size, 1, none⟩ = some (.int .i64 side) := box_cell hb1 1
              have d2 : w1.cell? ⟨w.heap.size, 2, none⟩ = some (.int .i64 cur) := box_cell hb1 2
              have d3 : w1.cell? ⟨w.heap.size, 3, none⟩ = some (.int .i64 next) := box_cell hb1 3
              clear hb1
              go_wp2
              all_goals go_ret
              all_goals refine ⟨?_, hB⟩
              all_goals first | rfl | (show Ending.returned (.bool _) = _; congr 2; simp; omega)
          · have hb : Ln.ok ⟨key, side, cur, next, send, ceil, sec, nano⟩ = false := by simp [Ln.ok]; intros; omega
            rw [hb]
            have Hb := Lib.hid hb
            have HT := Lib.hid hst
            clear hb hst
            try clear h5
            go_enter Try.func15, Try.ntmps15
            go_wp2_with fail
            refine (refStampValid sec nano _).mono ?_
            rintro e w1 ⟨rfl, hb1⟩
            rw [HT.out]
            have hB := (fresh1 w _).trans (hb1.mono (by show _ ≤ (w.heap.push _).size; simp))
            have d0 : w1.cell? ⟨w.heap.size, 0, none⟩ = some (.slice ao key.length cap) := box_cell hb1 0
            have d1 : w1.cell? ⟨w.heap.size, 1, none⟩ = some (.int .i64 side) := box_cell hb1 1
            have d2 : w1.cell? ⟨w.heap.size, 2, none⟩ = some (.int .i64 cur) := box_cell hb1 2
            have d3 : w1.cell? ⟨w.heap.size, 3, none⟩ = some (.int .i64 next) := box_cell hb1 3
            clear hb1
            go_wp2
            all_goals go_ret
            all_goals refine ⟨?_, hB⟩
            all_goals first | rfl | (show Ending.returned (.bool _) = _; congr 2; simp; omega)
        · have hb : Ln.ok ⟨key, side, cur, next, send, ceil, sec, nano⟩ = false := by simp [Ln.ok]; intros; omega
          rw [hb]
          have Hb := Lib.hid hb
          have HT := Lib.hid hst
          clear hb hst
          try clear h5
          go_enter Try.func15, Try.ntmps15
          go_wp2_with fail
          refine (refStampValid sec nano _).mono ?_
          rintro e w1 ⟨rfl, hb1⟩
          rw [HT.out]
          have hB := (fresh1 w _).trans (hb1.mono (by show _ ≤ (w.heap.push _).size; simp))
          have d0 : w1.cell? ⟨w.heap.size, 0, none⟩ = some (.slice ao key.length cap) := box_cell hb1 0
          have d1 : w1.cell? ⟨w.heap.size, 1, none⟩ = some (.int .i64 side) := box_cell hb1 1
          have d2 : w1.cell? ⟨w.heap.size, 2, none⟩ = some (.int .i64 cur) := box_cell hb1 2
          have d3 : w1.cell? ⟨w.heap.size, 3, none⟩ = some (.int .i64 next) := box_cell hb1 3
          clear hb1
          go_wp2
          all_goals go_ret
          all_goals refine ⟨?_, hB⟩
          all_goals first | rfl | (show Ending.returned (.bool _) = _; congr 2; simp; omega)
      · have hb : Ln.ok ⟨key, side, cur, next, send, ceil, sec, nano⟩ = false := by simp [Ln.ok]; intros; omega
        rw [hb]
        have Hb := Lib.hid hb
        have HT := Lib.hid hst
        clear hb hst
        try clear h5
        go_enter Try.func15, Try.ntmps15
        go_wp2_with fail
        refine (refStampValid sec nano _).mono ?_
        rintro e w1 ⟨rfl, hb1⟩
        rw [HT.out]
        have hB := (fresh1 w _).trans (hb1.mono (by show _ ≤ (w.heap.push _).size; simp))
        have d0 : w1.cell? ⟨w.heap.size, 0, none⟩ = some (.slice ao key.length cap) := box_cell hb1 0
        have d1 : w1.cell? ⟨w.heap.size, 1, none⟩ = some (.int .i64 side) := box_cell hb1 1
        have d2 : w1.cell? ⟨w.heap.size, 2, none⟩ = some (.int .i64 cur) := box_cell hb1 2
        have d3 : w1.cell? ⟨w.heap.size, 3, none⟩ = some (.int .i64 next) := box_cell hb1 3
        clear hb1
        go_wp2
        all_goals go_ret
        all_goals refine ⟨?_, hB⟩
        all_goals first | rfl | (show Ending.returned (.bool _) = _; congr 2; simp; omega)
    · have hb : Ln.ok ⟨key, side, cur, next, send, ceil, sec, nano⟩ = false := by simp [Ln.ok]; intros; omega
      rw [hb]
      have Hb := Lib.hid hb
      have HT := Lib.hid hst
      clear hb hst
      try clear h5
      go_enter Try.func15, Try.ntmps15
      go_wp2_with fail
      refine (refStampValid sec nano _).mono ?_
      rintro e w1 ⟨rfl, hb1⟩
      rw [HT.out]
      have hB := (fresh1 w _).trans (hb1.mono (by show _ ≤ (w.heap.push _).size; simp))
      have d0 : w1.cell? ⟨w.heap.size, 0, none⟩ = some (.slice ao key.length cap) := box_cell hb1 0
      have d1 : w1.cell? ⟨w.heap.size, 1, none⟩ = some (.int .i64 side) := box_cell hb1 1
      have d2 : w1.cell? ⟨w.heap.size, 2, none⟩ = some (.int .i64 cur) := box_cell hb1 2
      have d3 : w1.cell? ⟨w.heap.size, 3, none⟩ = some (.int .i64 next) := box_cell hb1 3
      clear hb1
      go_wp2
      all_goals go_ret
      all_goals refine ⟨?_, hB⟩
      all_goals first | rfl | (show Ending.returned (.bool _) = _; congr 2; simp; omega)
  · have hst' : stampB sec nano = false := by simpa using hst
    clear hst
    have hst := hst'
    clear hst'
    have hb : Ln.ok ⟨key, side, cur, next, send, ceil, sec, nano⟩ = false := by simp [Ln.ok, hst]
    rw [hb]
    have Hb := Lib.hid hb
    have HT := Lib.hid hst
    clear hb hst
    try clear h5
    go_enter Try.func15, Try.ntmps15
    go_wp2_with fail
    refine (refStampValid sec nano _).mono ?_
    rintro e w1 ⟨rfl, hb1⟩
    rw [HT.out]
    have hB := (fresh1 w _).trans (hb1.mono (by show _ ≤ (w.heap.push _).size; simp))
    have d0 : w1.cell? ⟨w.heap.size, 0, none⟩ = some (.slice ao key.length cap) := box_cell hb1 0
    have d1 : w1.cell? ⟨w.heap.size, 1, none⟩ = some (.int .i64 side) := box_cell hb1 1
    have d2 : w1.cell? ⟨w.heap.size, 2, none⟩ = some (.int .i64 cur) := box_cell hb1 2
    have d3 : w1.cell? ⟨w.heap.size, 3, none⟩ = some (.int .i64 next) := box_cell hb1 3
    clear hb1
    go_wp2
    all_goals go_ret
    all_goals refine ⟨?_, hB⟩
    all_goals first | rfl | (show Ending.returned (.bool _) = _; congr 2; simp; omega)
end Go.Proofs.Ytihndipgdogebaa
