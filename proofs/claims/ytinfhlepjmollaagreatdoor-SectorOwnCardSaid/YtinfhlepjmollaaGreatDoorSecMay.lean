/- Which sector may be (of the program, the document, the law); alike; num. -/
import Derived.Test.YtinfhlepjmollaaGreatDoorSecStr
import Derived.Test.YtinfhlepjmollaaGreatDoorSame
namespace Go.Proofs.YtinfhlepjmollaaGreatDoor
open Go.RowKit
/-- A sector as a value. -/
def Sec.val (S : Sec) (ao : Option Addr) (cap : Nat) : Value := .agg #[.string (str S.tag), .int .i64 S.epoch, .int .i64 S.seq, .int .i64 S.place, .slice ao S.body.length cap]
/-- Its numbers are numbers of the machine. -/
structure Sec.fits (S : Sec) : Prop where
  len : S.body.length ≤ 140737488351232
  e0 : -9223372036854775808 ≤ S.epoch
  e1 : S.epoch ≤ 9223372036854775807
  s0 : -9223372036854775808 ≤ S.seq
  s1 : S.seq ≤ 9223372036854775807
  p0 : -9223372036854775808 ≤ S.place
  p1 : S.place ≤ 9223372036854775807
theorem numOf (e : Int) (w : World) : Calls Tryz.prog 12 #[.int .i64 e] w fun x w' => x = .returned (.int .i64 e) ∧ w = w' := by
  go_enter Tryz.func12, Tryz.ntmps12
  go_wp2
  go_ret
  exact ⟨rfl, rfl⟩
set_option maxHeartbeats 4000000 in
theorem secMay (S : Sec) (ao : Option Addr) (cap : Nat) (w : World) (hf : S.fits) :
   Calls Tryz.prog 19 #[S.val ao cap] w fun e w' => e = .returned (.bool S.may) ∧ Below w.heap.size w w' := by
  obtain ⟨hl, he0, he1, hs0, hs1, hp0, hp1⟩ := hf
  obtain ⟨tag, epoch, seq, place, body⟩ := S
  unfold Sec.val
  simp only at hl he0 he1 hs0 hs1 hp0 hp1 ⊢
  go_enter Tryz.func19, Tryz.ntmps19
  go_wp2_with fail
  refine (tagged tag _).mono ?_; rintro e w1 ⟨rfl, hw⟩; obtain rfl := hw.symm; clear hw
  cases c1 : tagB tag
  · go_wp2
    go_ret
    exact ⟨by simp [Sec.may, c1] <;> omega, (Below.refl _ w).alloc (Nat.le_refl _) _⟩
  · by_cases c2 : 1 ≤ epoch
    · by_cases c3 : epoch ≤ 4611686018427387904
      · by_cases c4 : 1 ≤ seq
        · by_cases c5 : seq ≤ 4611686018427387904
          · by_cases c6 : 0 ≤ place
            · by_cases c7 : place ≤ 8191
              · have c7x : place < 8192 := by omega
                by_cases c8 : body.length ≤ 480
                · have c8x : (body.length : Int) ≤ 480 := by omega
                  go_wp2
                  go_ret
                  exact ⟨by simp [Sec.may, c1, c2, c3, c4, c5, c6, c7, c8] <;> omega, (Below.refl _ w).alloc (Nat.le_refl _) _⟩
                · have c8x : ¬ (body.length : Int) ≤ 480 := by omega
                  go_wp2
                  go_ret
                  exact ⟨by simp [Sec.may, c1, c2, c3, c4, c5, c6, c7, c8] <;> omega, (Below.refl _ w).alloc (Nat.le_refl _) _⟩
              · have c7x : ¬ place < 8192 := by omega
                go_wp2
                go_ret
                exact ⟨by simp [Sec.may, c1, c2, c3, c4, c5, c6] <;> omega, (Below.refl _ w).alloc (Nat.le_refl _) _⟩
            · go_wp2
              go_ret
              exact ⟨by simp [Sec.may, c1, c2, c3, c4, c5] <;> omega, (Below.refl _ w).alloc (Nat.le_refl _) _⟩
          · go_wp2
            go_ret
            exact ⟨by simp [Sec.may, c1, c2, c3, c4] <;> omega, (Below.refl _ w).alloc (Nat.le_refl _) _⟩
        · go_wp2
          go_ret
          exact ⟨by simp [Sec.may, c1, c2, c3] <;> omega, (Below.refl _ w).alloc (Nat.le_refl _) _⟩
      · go_wp2
        go_ret
        exact ⟨by simp [Sec.may, c1, c2] <;> omega, (Below.refl _ w).alloc (Nat.le_refl _) _⟩
    · go_wp2
      go_ret
      exact ⟨by simp [Sec.may, c1] <;> omega, (Below.refl _ w).alloc (Nat.le_refl _) _⟩
def alikeS (A B : Sec) : Bool := (A.body == B.body) && ((A.tag == B.tag) && ((A.epoch == B.epoch) && ((A.seq == B.seq) && (A.place == B.place))))
theorem alikeS_refl (A : Sec) : alikeS A A = true := by simp [alikeS]
theorem alikeS_iff {A B : Sec} : alikeS A B = true ↔ A = B := by
  obtain ⟨a, b, c, d, e⟩ := A
  obtain ⟨a', b', c', d', e'⟩ := B
  simp only [alikeS, Bool.and_eq_true, beq_iff_eq, Sec.mk.injEq]
  constructor
  · rintro ⟨h1, h2, h3, h4, h5⟩; exact ⟨h2, h3, h4, h5, h1⟩
  · rintro ⟨h2, h3, h4, h5, h1⟩; exact ⟨h1, h2, h3, h4, h5⟩
theorem alike (A B : Sec) (aoA aoB : Option Addr) (capA capB : Nat) (w : World) (hA : A.body.length ≤ 281474976710656) (hB : B.body.length ≤ 281474976710656) (hrA : Rd w aoA A.body) (hrB : Rd w aoB B.body) :
   Calls Tryz.prog 11 #[A.val aoA capA, B.val aoB capB] w fun e w' => e = .returned (.bool (alikeS A B)) ∧ Below w.heap.size w w' := by
  obtain ⟨t1, e1, s1, p1, b1⟩ := A
  obtain ⟨t2, e2, s2, p2, b2⟩ := B
  unfold Sec.val
  simp only at hA hB hrA hrB ⊢
  have hb0 : Below w.heap.size w ((w.alloc (.cells #[.string (str t1), .int .i64 e1, .int .i64 s1, .int .i64 p1, .slice aoA b1.length capA] 46)).alloc (.cells #[.string (str t2), .int .i64 e2, .int .i64 s2, .int .i64 p2, .slice aoB b2.length capB] 46)) := ((Below.refl _ w).alloc (Nat.le_refl _) _).alloc (by simp only [alloc_size]; omega) _
  go_enter Tryz.func11, Tryz.ntmps11
  go_wp2_with fail
  refine (sameBytes aoA aoB b1 b2 capA capB _ hA hB (hrA.on hb0) (hrB.on hb0)).mono ?_
  rintro e w1 ⟨rfl, nd, rfl⟩
  have hB1 := below_drewN hb0 nd
  cases d1 : (b1 == b2)
  · go_wp2
    go_ret
    exact ⟨by simp [alikeS, d1], hB1⟩
  · cases d2 : (t1 == t2)
    · go_wp2
      go_ret
      exact ⟨by simp [alikeS, d1, d2], hB1⟩
    · cases d3 : (e1 == e2)
      · go_wp2
        go_ret
        exact ⟨by simp [alikeS, d1, d2, d3], hB1⟩
      · cases d4 : (s1 == s2)
        · go_wp2
          go_ret
          exact ⟨by simp [alikeS, d1, d2, d3, d4], hB1⟩
        · cases d5 : (p1 == p2)
          · go_wp2
            go_ret
            exact ⟨by simp [alikeS, d1, d2, d3, d4, d5], hB1⟩
          · go_wp2
            go_ret
            exact ⟨by simp [alikeS, d1, d2, d3, d4, d5], hB1⟩
end Go.Proofs.YtinfhlepjmollaaGreatDoor
