/- The walk of the laws' own 'room', and the contracts at a length that is spelt otherwise. -/
import Derived.Test.YtihiomgnegcbbaaDoorCrcFirst
import Derived.Test.YtihiomgnegcbbaaDoorCrcAlg
namespace Go.Proofs.YtihiomgnegcbbaaDoor
open Go.RowKit
def t3 : List (BitVec 8) := [0xa1#8, 0xa2#8, 0xa3#8]
theorem bts3 : bts t3 = [.int .u8 161, .int .u8 162, .int .u8 163] := by unfold bts n8 t3; rfl
set_option maxHeartbeats 400000 in
theorem lawRoom (ao : Option Addr) (l : List (BitVec 8)) (cap : Nat) (w : World) (hl : l.length ≤ 1000000) (hr : Rd w ao l) :
    Calls Tryd.prog 14 #[.slice ao l.length cap] w fun e w' => ∃ g c, e = .returned (.slice (some ⟨g, 0, none⟩) (l.length + 3) c) ∧ l.length + 3 ≤ c ∧ c ≤ maxLen ∧ w.heap.size ≤ g ∧ Own w' g c 5 (l ++ t3) ∧ Below w.heap.size w w' := by
  obtain ⟨i0, hi, hz0, hz1, hz2⟩ := info_parts info_u8
  go_enter Tryd.func14, Tryd.ntmps14
  go_wp2_with fail
  refine (bytesOf ao l cap w (by omega) hr).mono ?_
  rintro e w1 ⟨v, rfl, hown, hb⟩
  clear hr
  go_wp2_with (at_builtin; refine wpList_append_own _ rfl _ _ 22 rfl w.heap.size 5 i0 (.int .u8 0) 1 1 Tryd.underlying22 hi hz0 hz1 hz2 rfl (by decide) _ _ _ rfl (hown.alloc _) ⟨w1.heap.size, 0, none⟩ 3 3 (bts t3) rfl (by rw [bts3]; rfl) ?c1 ?c2 ?c3 ?c4 ?c5 ?_)
  case c1 =>
    intro j u hj
    rw [bts3] at hj
    match j, hj with
    | 0, hj => simp at hj; subst hj; simp [Addr.add]
    | 1, hj => simp at hj; subst hj; simp [Addr.add]
    | 2, hj => simp at hj; subst hj; simp [Addr.add]
  case c2 => intro u hu; rw [bts3] at hu; simp at hu; rcases hu with rfl | rfl | rfl <;> rfl
  case c3 => unfold maxLen; omega
  case c4 => omega
  case c5 => have := hb.size; simp; omega
  intro v' w2 hown' hgrow _
  have hb2 : Below w.heap.size w w2 := (hb.alloc hb.size _).grown hgrow (by have := hb.size; simp; omega) (fun g hg => (hown.lt g hg).1)
  rw [← bts_append] at hown'
  obtain ⟨g, c, rfl, hg, hc, hm, ho⟩ := owns_own hown' (by simp [t3])
  have e3 : (l ++ t3).length = l.length + 3 := by simp [t3]
  rw [e3] at hc ⊢
  clear hown hgrow hown' hb e3
  go_wp2
  go_ret
  exact ⟨g, c, rfl, hc, hm, hg, ho, hb2⟩
theorem crcUpdate' (c : BitVec 32) (ao : Option Addr) (l : List (BitVec 8)) (n cap : Nat) (w : World) (hn : l.length = n)
   (hl : l.length ≤ 140737488351232) (hr : Rd w ao l) (ht : Tab w) :
   Calls Tryd.prog 18 #[.int .u32 (n32 c), .slice ao n cap] w fun e w' => e = .returned (.int .u32 (n32 (Crc.upd c l))) ∧ w = w' := by
  subst hn; exact crcUpdate c ao l cap w hl hr ht
theorem crcSum' (ao : Option Addr) (l : List (BitVec 8)) (n cap : Nat) (w : World) (hn : l.length = n)
   (hl : l.length ≤ 140737488351232) (hr : Rd w ao l) (ht : Tab w) :
   Calls Tryd.prog 15 #[.slice ao n cap] w fun e w' => e = .returned (.int .u32 (n32 (Crc.sum l))) ∧ w = w' := by
  subst hn; exact crcSum ao l cap w hl hr ht
theorem refUpdate' (c : BitVec 32) (ao : Option Addr) (l : List (BitVec 8)) (n cap : Nat) (w : World) (hn : l.length = n)
   (hl : l.length ≤ 140737488351232) (hr : Rd w ao l) :
   Calls Tryd.prog 19 #[.int .u32 (n32 c), .slice ao n cap] w fun e w' => e = .returned (.int .u32 (n32 (Crc.upd c l))) ∧ w = w' := by
  subst hn; exact refUpdate c ao l cap w hl hr
theorem refSum' (ao : Option Addr) (l : List (BitVec 8)) (n cap : Nat) (w : World) (hn : l.length = n)
   (hl : l.length ≤ 140737488351232) (hr : Rd w ao l) :
   Calls Tryd.prog 16 #[.slice ao n cap] w fun e w' => e = .returned (.int .u32 (n32 (Crc.sum l))) ∧ w = w' := by
  subst hn; exact refSum ao l cap w hl hr
theorem sameBytes' (ao bo : Option Addr) (l m : List (BitVec 8)) (n k c1 c2 : Nat) (w : World) (hn : l.length = n) (hk : m.length = k)
   (hl : l.length ≤ 281474976710656) (hm : m.length ≤ 281474976710656) (hr : Rd w ao l) (hs : Rd w bo m) :
   Calls Tryd.prog 17 #[.slice ao n c1, .slice bo k c2] w fun e w' => e = .returned (.bool (l == m)) ∧ Still w w' := by
  subst hn; subst hk; exact sameBytes ao bo l m c1 c2 w hl hm hr hs
end Go.Proofs.YtihiomgnegcbbaaDoor
