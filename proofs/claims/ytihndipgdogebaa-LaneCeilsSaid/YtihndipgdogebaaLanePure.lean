/- What a call by number makes of a lane, and what holds of it: plain laws, no program in sight but the lane's own functions. -/
import Derived.Test.YtihndipgdogebaaLane9
import Derived.Test.YtihndipgdogebaaLane8b
namespace Go.Proofs.Ytihndipgdogebaa
open Go.RowKit
/-- One call: its kind and its numbers. -/
structure Ask where
  kind : Int
  g : Int
  b : Int
  c : Int
  at1 : Int
  ss : Int
  sn : Int
structure Ask.fits (o : Ask) : Prop where
  c0 : 0 ≤ o.c
  c1 : o.c ≤ 18446744073709551615
  a0 : 0 ≤ o.at1
  a1 : o.at1 ≤ 18446744073709551615
  s1 : o.ss ≤ 9223372036854775807
def Ask.sum (o : Ask) (x : Int) : Int := wrap64 (x + o.g)
def Ask.usum (x y : Int) : Int := IntKind.u64.wrap (x + y)
def ansL (L : Ln) (o : Ask) : Ln :=
  if o.kind = 1 then againL L
  else if o.kind = 2 then reserveL L (Ask.usum L.send o.at1) o.b
  else if o.kind = 3 then proposeL L
  else if o.kind = 4 then answeredL L (o.sum L.cur) o.c o.ss o.sn o.b
  else if o.kind = 5 then openedL L (o.sum L.cur) o.c o.b
  else if o.kind = 6 then raiseL L (Ask.usum L.ceil o.c) o.b
  else Ln.zero
def stepL (L : Ln) (o : Ask) : Ln := if (ansL L o).cur = 0 then L else ansL L o
def givenL (L : Ln) (o : Ask) : Int := if o.kind = 3 then (if nextE L = 0 then nextG L else -1) else -1
def atL (L : Ln) (o : Ask) : Int := if o.kind = 4 then atA L (o.sum L.cur) o.c o.ss o.sn o.b else 0
theorem usum_bd (x y : Int) : 0 ≤ Ask.usum x y ∧ Ask.usum x y ≤ 18446744073709551615 := by
  have h := IntKind.wrap_u64 (x + y)
  unfold Ask.usum
  omega
theorem upF_bd (c b : Int) (h0 : 0 ≤ c) : 0 ≤ upF c b ∧ upF c b ≤ 18446744073709551615 := by
  unfold upF
  split
  · rename_i h
    have := blkB_le h
    split <;> omega
  · omega
theorem upF_gt (c b : Int) (h : blkB b = true) (h1 : c ≤ 18446744073709551614) : c < upF c b := by
  unfold upF
  rw [if_pos h]
  have := blkB_le h
  split <;> omega
theorem fits_zero : Ln.zero.fits := by constructor <;> decide
theorem ok_iff {L : Ln} : L.ok = true ↔ (L.key.length = 32 ∧ 0 ≤ L.side ∧ L.side ≤ 1) ∧ (1 ≤ L.cur ∧ L.cur ≤ 2147483647 ∧ 0 ≤ L.next ∧ L.next ≤ 2147483647) ∧ stampB L.sec L.nano = true := by
  simp only [Ln.ok, Bool.and_eq_true, decide_eq_true_eq]
  constructor
  · rintro ⟨⟨⟨h1, h2, h3⟩, ⟨⟨h4, h5⟩, h6⟩, h7⟩, h8⟩
    exact ⟨⟨h1, h2, h3⟩, ⟨h4, h5, h6, h7⟩, h8⟩
  · rintro ⟨⟨h1, h2, h3⟩, ⟨h4, h5, h6, h7⟩, h8⟩
    exact ⟨⟨⟨h1, h2, h3⟩, ⟨⟨h4, h5⟩, h6⟩, h7⟩, h8⟩
/-- What a call does to a lane. -/
structure Rise (L z : Ln) (o : Ask) : Prop where
  key : z.key = L.key
  side : z.side = L.side
  ok : L.ok = true → z.ok = true
  fits : L.fits → o.fits → z.fits
theorem nextG_bd {L : Ln} (h : nextE L = 0) : topG L < 2147483647 ∧ nextG L = topG L + 1 ∧ L.ok = true := by
  have hok := nextE_ok h
  unfold nextE at h
  rw [if_pos hok] at h
  unfold nextG
  rw [if_pos hok]
  by_cases ht : 2147483647 ≤ topG L
  · rw [if_pos ht] at h; omega
  · rw [if_neg ht]; exact ⟨by omega, rfl, hok⟩
theorem topG_bd (L : Ln) : L.cur ≤ topG L ∧ L.next ≤ topG L ∧ (topG L = L.cur ∨ topG L = L.next) := by
  unfold topG; split <;> omega
theorem mayR_iff {L : Ln} {a b : Int} : mayR L a b = true ↔ blkB b = true ∧ L.send ≤ a ∧ a ≤ 18446744073709551614 ∧ L.ok = true := by
  simp [mayR]
theorem mayS_iff {L : Ln} {a b : Int} : mayS L a b = true ↔ blkB b = true ∧ L.ceil ≤ a ∧ a ≤ 18446744073709551614 ∧ L.ok = true := by
  simp [mayS]
theorem mayO_iff {L : Ln} {g c b : Int} : mayO L g c b = true ↔ blkB b = true ∧ L.cur < g ∧ g ≤ L.next ∧ c ≤ 18446744073709551614 ∧ L.ok = true := by
  simp [mayO]
theorem mayA_iff {L : Ln} {g c ss sn b : Int} : mayA L g c ss sn b = true ↔ L.ok = true ∧ blkB b = true ∧ L.cur < g ∧ g ≤ 2147483647 ∧ c ≤ 18446744073709551614 ∧ stampB ss sn = true ∧ lessB L.sec L.nano ss sn = true := by
  simp [mayA]
/-- What a call makes of a lane: it stays, or it is one of six. -/
inductive Turn (L : Ln) (o : Ask) : Ln → Int → Int → Prop
  | stay : Turn L o L (-1) 0
  | again (h : o.kind = 1) (hok : L.ok = true) (ht : topG L < 2147483647) : Turn L o (L.keep (topG L + 1) L.next 0 0 L.sec L.nano) (-1) 0
  | reserve (h : o.kind = 2) (hok : L.ok = true) (a : Int) (ha : L.send ≤ a) (ha1 : a ≤ 18446744073709551614) (hb : blkB o.b = true) : Turn L o (L.keep L.cur L.next (upF a o.b) L.ceil L.sec L.nano) (-1) 0
  | propose (h : o.kind = 3) (hok : L.ok = true) (ht : topG L < 2147483647) : Turn L o (L.keep L.cur (topG L + 1) L.send L.ceil L.sec L.nano) (topG L + 1) 0
  | answered (h : o.kind = 4) (hok : L.ok = true) (g : Int) (hg : L.cur < g) (hg1 : g ≤ 2147483647) (hb : blkB o.b = true) (hc : o.c ≤ 18446744073709551614) (hs : stampB o.ss o.sn = true) (hl : lessB L.sec L.nano o.ss o.sn = true) : Turn L o (L.keep g L.next (upF (if g ≤ L.next then 1 else 0) o.b) (upF o.c o.b) o.ss o.sn) (-1) (if g ≤ L.next then 1 else 0)
  | opened (h : o.kind = 5) (hok : L.ok = true) (g : Int) (hg : L.cur < g) (hg1 : g ≤ L.next) (hb : blkB o.b = true) (hc : o.c ≤ 18446744073709551614) : Turn L o (L.keep g L.next (upF 1 o.b) (upF o.c o.b) L.sec L.nano) (-1) 0
  | raise (h : o.kind = 6) (hok : L.ok = true) (a : Int) (ha : L.ceil ≤ a) (ha1 : a ≤ 18446744073709551614) (hb : blkB o.b = true) : Turn L o (L.keep L.cur L.next L.send (upF a o.b) L.sec L.nano) (-1) 0
theorem keep_cur (L : Ln) (a b c d e f : Int) : (L.keep a b c d e f).cur = a := rfl
theorem zero_cur : Ln.zero.cur = 0 := rfl
theorem stepL_zero {L : Ln} {o : Ask} (h : ansL L o = Ln.zero) : stepL L o = L := by unfold stepL; rw [h, if_pos zero_cur]
theorem stepL_keep {L : Ln} {o : Ask} {a b c d e f : Int} (h : ansL L o = L.keep a b c d e f) (ha : a ≠ 0) : stepL L o = L.keep a b c d e f := by unfold stepL; rw [h, keep_cur, if_neg ha]
theorem turn_of (L : Ln) (o : Ask) : Turn L o (stepL L o) (givenL L o) (atL L o) := by
  by_cases h1 : o.kind = 1
  · have hg : givenL L o = -1 := by unfold givenL; rw [if_neg (by omega)]
    have ha : atL L o = 0 := by unfold atL; rw [if_neg (by omega)]
    rw [hg, ha]
    by_cases hn : nextE L = 0
    · obtain ⟨ht, hG, hok⟩ := nextG_bd hn
      have h := stepL_keep (L := L) (o := o) (a := topG L + 1) (b := L.next) (c := 0) (d := 0) (e := L.sec) (f := L.nano) (by unfold ansL againL; rw [if_pos h1, if_pos hn, hG]) (by have := topG_bd L; have := ok_iff.1 hok; omega)
      rw [h]
      exact .again h1 hok ht
    · rw [stepL_zero (by unfold ansL againL; rw [if_pos h1, if_neg hn])]
      exact .stay
  by_cases h2 : o.kind = 2
  · have hg : givenL L o = -1 := by unfold givenL; rw [if_neg (by omega)]
    have ha : atL L o = 0 := by unfold atL; rw [if_neg (by omega)]
    rw [hg, ha]
    by_cases hm : mayR L (Ask.usum L.send o.at1) o.b = true
    · obtain ⟨hb, h3, h4, hok⟩ := mayR_iff.1 hm
      rw [stepL_keep (by unfold ansL reserveL; rw [if_neg h1, if_pos h2, if_pos hm]) (by have := ok_iff.1 hok; omega)]
      exact .reserve h2 hok _ h3 h4 hb
    · rw [stepL_zero (by unfold ansL reserveL; rw [if_neg h1, if_pos h2, if_neg hm])]
      exact .stay
  by_cases h3 : o.kind = 3
  · have ha : atL L o = 0 := by unfold atL; rw [if_neg (by omega)]
    rw [ha]
    by_cases hn : nextE L = 0
    · obtain ⟨ht, hG, hok⟩ := nextG_bd hn
      have hg : givenL L o = topG L + 1 := by unfold givenL; rw [if_pos h3, if_pos hn, hG]
      rw [hg, stepL_keep (by unfold ansL proposeL; rw [if_neg h1, if_neg h2, if_pos h3, if_pos hn, hG]) (by have := ok_iff.1 hok; omega)]
      exact .propose h3 hok ht
    · have hg : givenL L o = -1 := by unfold givenL; rw [if_pos h3, if_neg hn]
      rw [hg, stepL_zero (by unfold ansL proposeL; rw [if_neg h1, if_neg h2, if_pos h3, if_neg hn])]
      exact .stay
  have hg : givenL L o = -1 := by unfold givenL; rw [if_neg h3]
  rw [hg]
  by_cases h4 : o.kind = 4
  · by_cases hm : mayA L (o.sum L.cur) o.c o.ss o.sn o.b = true
    · have ha : atA L (o.sum L.cur) o.c o.ss o.sn o.b = if o.sum L.cur ≤ L.next then 1 else 0 := by unfold atA; rw [if_pos hm]
      have ha2 : atL L o = if o.sum L.cur ≤ L.next then 1 else 0 := by unfold atL; rw [if_pos h4, ha]
      obtain ⟨hok, hb, h5, h6, h7, h8, h9⟩ := mayA_iff.1 hm
      rw [ha2, stepL_keep (by unfold ansL answeredL; rw [if_neg h1, if_neg h2, if_neg h3, if_pos h4, if_pos hm, ha]) (by have := ok_iff.1 hok; omega)]
      exact .answered h4 hok _ h5 h6 hb h7 h8 h9
    · have ha : atL L o = 0 := by unfold atL atA; rw [if_pos h4, if_neg hm]
      rw [ha, stepL_zero (by unfold ansL answeredL; rw [if_neg h1, if_neg h2, if_neg h3, if_pos h4, if_neg hm])]
      exact .stay
  have ha : atL L o = 0 := by unfold atL; rw [if_neg h4]
  rw [ha]
  by_cases h5 : o.kind = 5
  · by_cases hm : mayO L (o.sum L.cur) o.c o.b = true
    · obtain ⟨hb, h6, h7, h8, hok⟩ := mayO_iff.1 hm
      rw [stepL_keep (by unfold ansL openedL; rw [if_neg h1, if_neg h2, if_neg h3, if_neg h4, if_pos h5, if_pos hm]) (by have := ok_iff.1 hok; omega)]
      exact .opened h5 hok _ h6 h7 hb h8
    · rw [stepL_zero (by unfold ansL openedL; rw [if_neg h1, if_neg h2, if_neg h3, if_neg h4, if_pos h5, if_neg hm])]
      exact .stay
  by_cases h6 : o.kind = 6
  · by_cases hm : mayS L (Ask.usum L.ceil o.c) o.b = true
    · obtain ⟨hb, h7, h8, hok⟩ := mayS_iff.1 hm
      rw [stepL_keep (by unfold ansL raiseL; rw [if_neg h1, if_neg h2, if_neg h3, if_neg h4, if_neg h5, if_pos h6, if_pos hm]) (by have := ok_iff.1 hok; omega)]
      exact .raise h6 hok _ h7 h8 hb
    · rw [stepL_zero (by unfold ansL raiseL; rw [if_neg h1, if_neg h2, if_neg h3, if_neg h4, if_neg h5, if_pos h6, if_neg hm])]
      exact .stay
  rw [stepL_zero (by unfold ansL; rw [if_neg h1, if_neg h2, if_neg h3, if_neg h4, if_neg h5, if_neg h6])]
  exact .stay
theorem Turn.rise {L z : Ln} {o : Ask} {g a : Int} (h : Turn L o z g a) : Rise L z o := by
  cases h with
  | stay => exact ⟨rfl, rfl, id, fun h _ => h⟩
  | again h hok ht =>
    have hk := ok_iff.1 hok
    have := topG_bd L
    exact ⟨rfl, rfl, fun _ => ok_iff.2 ⟨hk.1, ⟨by simp only [Ln.keep]; omega, by simp only [Ln.keep]; omega, hk.2.1.2.2.1, hk.2.1.2.2.2⟩, hk.2.2⟩, fun hf _ => ⟨hf.len, by simp only [Ln.keep]; omega, by simp only [Ln.keep]; omega, hf.next0, hf.next1, by simp [Ln.keep], by simp [Ln.keep], by simp [Ln.keep], by simp [Ln.keep], hf.sec1⟩⟩
  | reserve h hok x hx hx1 hb =>
    have hk := ok_iff.1 hok
    refine ⟨rfl, rfl, fun _ => ok_iff.2 ⟨hk.1, hk.2.1, hk.2.2⟩, fun hf _ => ?_⟩
    have := upF_bd x o.b (by have := hf.send0; omega)
    exact ⟨hf.len, hf.cur0, hf.cur1, hf.next0, hf.next1, this.1, this.2, hf.ceil0, hf.ceil1, hf.sec1⟩
  | propose h hok ht =>
    have hk := ok_iff.1 hok
    have := topG_bd L
    exact ⟨rfl, rfl, fun _ => ok_iff.2 ⟨hk.1, ⟨hk.2.1.1, hk.2.1.2.1, by simp only [Ln.keep]; omega, by simp only [Ln.keep]; omega⟩, hk.2.2⟩, fun hf _ => ⟨hf.len, hf.cur0, hf.cur1, by simp only [Ln.keep]; omega, by simp only [Ln.keep]; omega, hf.send0, hf.send1, hf.ceil0, hf.ceil1, hf.sec1⟩⟩
  | answered h hok x hx hx1 hb hc hs hl =>
    have hk := ok_iff.1 hok
    refine ⟨rfl, rfl, fun _ => ok_iff.2 ⟨hk.1, ⟨by simp only [Ln.keep]; omega, by simp only [Ln.keep]; omega, hk.2.1.2.2.1, hk.2.1.2.2.2⟩, hs⟩, fun hf ho => ?_⟩
    have h1 := upF_bd (if x ≤ L.next then 1 else 0) o.b (by split <;> omega)
    have h2 := upF_bd o.c o.b ho.c0
    exact ⟨hf.len, by simp only [Ln.keep]; omega, by simp only [Ln.keep]; omega, hf.next0, hf.next1, h1.1, h1.2, h2.1, h2.2, ho.s1⟩
  | opened h hok x hx hx1 hb hc =>
    have hk := ok_iff.1 hok
    refine ⟨rfl, rfl, fun _ => ok_iff.2 ⟨hk.1, ⟨by simp only [Ln.keep]; omega, by simp only [Ln.keep]; omega, hk.2.1.2.2.1, hk.2.1.2.2.2⟩, hk.2.2⟩, fun hf ho => ?_⟩
    have h1 := upF_bd 1 o.b (by omega)
    have h2 := upF_bd o.c o.b ho.c0
    exact ⟨hf.len, by simp only [Ln.keep]; omega, by simp only [Ln.keep]; omega, hf.next0, hf.next1, h1.1, h1.2, h2.1, h2.2, hf.sec1⟩
  | raise h hok x hx hx1 hb =>
    have hk := ok_iff.1 hok
    refine ⟨rfl, rfl, fun _ => ok_iff.2 ⟨hk.1, hk.2.1, hk.2.2⟩, fun hf _ => ?_⟩
    have := upF_bd x o.b (by have := hf.ceil0; omega)
    exact ⟨hf.len, hf.cur0, hf.cur1, hf.next0, hf.next1, hf.send0, hf.send1, this.1, this.2, hf.sec1⟩
/-- Is the stamp (a, b) above (c, d)? -/
def aftB (a b c d : Int) : Bool := decide (c < a) || (a == c && decide (d < b))
/-- What LaneRises asks of one call. -/
structure Rises (L z : Ln) (o : Ask) (given : Int) : Prop where
  cur : L.cur ≤ z.cur
  next : L.next ≤ z.next
  seen : aftB L.sec L.nano z.sec z.nano = false
  send : z.cur = L.cur → L.send ≤ z.send
  ceil : z.cur = L.cur → L.ceil ≤ z.ceil
  turns : sameL z L = false → ((o.kind = 1 ∨ o.kind = 4 ∨ o.kind = 5) ↔ L.cur < z.cur)
  nexts : sameL z L = false → (o.kind = 3 ↔ L.next < z.next)
  seens : sameL z L = false → (o.kind = 4 ↔ aftB z.sec z.nano L.sec L.nano = true)
  given : 0 ≤ given → L.cur < given ∧ L.next < given ∧ given = z.next
theorem aft_self (a b : Int) : aftB a b a b = false := by simp [aftB]
theorem aft_less {a b c d : Int} (h : lessB a b c d = true) : aftB c d a b = true ∧ aftB a b c d = false := by
  simp only [lessB, Bool.or_eq_true, decide_eq_true_eq, Bool.and_eq_true, beq_iff_eq] at h
  constructor
  · simp only [aftB, Bool.or_eq_true, decide_eq_true_eq, Bool.and_eq_true, beq_iff_eq]
    omega
  · simp only [aftB, Bool.or_eq_false_iff, decide_eq_false_iff_not, Bool.and_eq_false_iff, beq_eq_false_iff_ne]
    omega
theorem Turn.rises {L z : Ln} {o : Ask} {g a : Int} (h : Turn L o z g a) : Rises L z o g := by
  have ht := topG_bd L
  have hs := aft_self L.sec L.nano
  cases h with
  | stay =>
    have hn : ¬ sameL L L = false := by rw [sameL_refl]; decide
    exact ⟨Int.le_refl _, Int.le_refl _, hs, fun _ => Int.le_refl _, fun _ => Int.le_refl _, fun h => absurd h hn, fun h => absurd h hn, fun h => absurd h hn, fun h => by omega⟩
  | again h hok ht1 =>
    exact ⟨by simp only [Ln.keep]; omega, Int.le_refl _, hs, fun h => by simp only [Ln.keep] at h; omega, fun h => by simp only [Ln.keep] at h; omega, fun _ => by simp only [Ln.keep]; omega, fun _ => by simp only [Ln.keep]; omega, fun _ => by simp only [Ln.keep, hs]; simp; omega, fun h => by omega⟩
  | reserve h hok x hx hx1 hb =>
    have := upF_gt x o.b hb hx1
    exact ⟨Int.le_refl _, Int.le_refl _, hs, fun _ => by simp only [Ln.keep]; omega, fun _ => Int.le_refl _, fun _ => by simp only [Ln.keep]; omega, fun _ => by simp only [Ln.keep]; omega, fun _ => by simp only [Ln.keep, hs]; simp; omega, fun h => by omega⟩
  | propose h hok ht1 =>
    exact ⟨Int.le_refl _, by simp only [Ln.keep]; omega, hs, fun _ => Int.le_refl _, fun _ => Int.le_refl _, fun _ => by simp only [Ln.keep]; omega, fun _ => by simp only [Ln.keep]; omega, fun _ => by simp only [Ln.keep, hs]; simp; omega, fun _ => ⟨by omega, by omega, rfl⟩⟩
  | answered h hok x hx hx1 hb hc hst hl =>
    have h9 := aft_less hl
    exact ⟨by simp only [Ln.keep]; omega, Int.le_refl _, h9.2, fun h => by simp only [Ln.keep] at h; omega, fun h => by simp only [Ln.keep] at h; omega, fun _ => by simp only [Ln.keep]; omega, fun _ => by simp only [Ln.keep]; omega, fun _ => by simp only [Ln.keep, h9.1]; simp; omega, fun h => by omega⟩
  | opened h hok x hx hx1 hb hc =>
    exact ⟨by simp only [Ln.keep]; omega, Int.le_refl _, hs, fun h => by simp only [Ln.keep] at h; omega, fun h => by simp only [Ln.keep] at h; omega, fun _ => by simp only [Ln.keep]; omega, fun _ => by simp only [Ln.keep]; omega, fun _ => by simp only [Ln.keep, hs]; simp; omega, fun h => by omega⟩
  | raise h hok x hx hx1 hb =>
    have := upF_gt x o.b hb hx1
    exact ⟨Int.le_refl _, Int.le_refl _, hs, fun _ => Int.le_refl _, fun _ => by simp only [Ln.keep]; omega, fun _ => by simp only [Ln.keep]; omega, fun _ => by simp only [Ln.keep]; omega, fun _ => by simp only [Ln.keep, hs]; simp; omega, fun h => by omega⟩
end Go.Proofs.Ytihndipgdogebaa
