/- A sector device, as numbers and lists alone: what lasts, what pends, what is armed. No program in sight. Things of a bag: rows of bytes, a pool of rows that are read alone, many things as one, a plain fact; a thing at any place. No program in sight. Lists of elements of two cells in a bag: append, read. No program in sight. The program's device, as one thing of a bag. No program in sight. -/
import Derived.Test.YthaiibfnjgfgjaaDoorBv
import Derived.Test.YthaiibfnjgfgjaaDoorBook0
namespace Go.Proofs.YthaiibfnjgfgjaaDoor
/-- A device: its sectors' bytes, the writes that pend, the power, the counts, the faults that are armed. -/
structure Dk where
  ls : List (List (BitVec 8))
  ps : List (Nat × List (BitVec 8))
  off : Bool
  done : Nat
  claim : Nat
  fs : List (Int × Int)
namespace Dk
def zs : List (BitVec 8) := List.replicate 512 0#8
theorem zs_len : zs.length = 512 := List.length_replicate ..
def new (n : Nat) : Dk := ⟨List.replicate n zs, [], false, 0, 0, []⟩
def kindAt (fs : List (Int × Int)) (k : Int) : Int := match fs.find? (fun f => f.1 == k) with
  | some f => f.2
  | none => 0
/-- What an operation meets: 0, 103 or 104. -/
def opE (D : Dk) : Int := if D.off then 104 else if kindAt D.fs ((D.done + 1 : Nat) : Int) = 1 then 104 else if kindAt D.fs ((D.done + 1 : Nat) : Int) = 2 then 103 else 0
/-- How the device stands behind it. -/
def opD (D : Dk) : Dk := if D.off then D else { D with done := D.done + 1, off := decide (kindAt D.fs ((D.done + 1 : Nat) : Int) = 1) }
/-- What a read of a sector tells. -/
def latest (ls : List (List (BitVec 8))) (ps : List (Nat × List (BitVec 8))) (i : Nat) : List (BitVec 8) := match ps.reverse.find? (fun p => p.1 == i) with
  | some p => p.2
  | none => ls.getD i []
def inn (D : Dk) (i : Int) : Bool := decide (0 ≤ i ∧ i < D.ls.length)
def readE (D : Dk) (i : Int) : Int := if D.inn i then D.opE else 101
def readD (D : Dk) (i : Int) : Dk := if D.inn i then D.opD else D
def readB (D : Dk) (i : Int) : List (BitVec 8) := if D.readE i = 0 then latest D.ls D.ps i.toNat else []
def writeE (D : Dk) (i : Int) (b : List (BitVec 8)) : Int := if D.inn i then if b.length = 512 then D.opE else 102 else 101
def writeD (D : Dk) (i : Int) (b : List (BitVec 8)) : Dk := if D.inn i then if b.length = 512 then if D.opE = 0 then { D.opD with ps := D.ps ++ [(i.toNat, b)] } else D.opD else D else D
/-- The writes are laid down. -/
def lay : List (Nat × List (BitVec 8)) → List (List (BitVec 8)) → List (List (BitVec 8))
  | [], ls => ls
  | p :: ps, ls => lay ps (ls.set p.1 p.2)
/-- Those that are kept are laid down. -/
def layK : List (Nat × List (BitVec 8)) → List Bool → List (List (BitVec 8)) → List (List (BitVec 8))
  | [], _, ls => ls
  | _ :: _, [], ls => ls
  | p :: ps, k :: ks, ls => layK ps ks (if k then ls.set p.1 p.2 else ls)
def flushD (D : Dk) : Dk := if D.opE = 0 then { D.opD with ls := lay D.ps D.ls, ps := [] } else D.opD
/-- May these faults be armed? -/
def armOk (l : List (Int × Int)) : Bool := (List.range l.length).all fun i => decide (1 ≤ (l.getD i (0, 0)).1) && (decide ((l.getD i (0, 0)).2 = 1) || decide ((l.getD i (0, 0)).2 = 2)) && (List.range i).all fun k => (l.getD k (0, 0)).1 != (l.getD i (0, 0)).1
def armE (D : Dk) (l : List (Int × Int)) : Int := if armOk l then if D.off then 104 else 0 else 105
def armD (D : Dk) (l : List (Int × Int)) : Dk := if D.armE l = 0 then { D with fs := l, done := 0 } else D
def crashD (D : Dk) (keep : List Bool) : Dk := { D with ls := layK D.ps keep D.ls, ps := [], off := false, done := 0, fs := [] }
def claimD (D : Dk) : Dk := { D with claim := D.claim + 1 }
/-- A device that may be: its sectors have their size, its writes lie in it; no more than m of anything. -/
structure Wf (D : Dk) (m : Nat) : Prop where
  lo : 1 ≤ D.ls.length
  hi : D.ls.length ≤ 8192
  sec : ∀ l ∈ D.ls, l.length = 512
  at_ : ∀ p ∈ D.ps, p.1 < D.ls.length ∧ p.2.length = 512
  pend : D.ps.length ≤ m
  count : D.done ≤ m
  claims : D.claim ≤ m
  kinds : ∀ f ∈ D.fs, f.2 = 1 ∨ f.2 = 2
theorem Wf.mono {D : Dk} {m n : Nat} (h : Wf D m) (hn : m ≤ n) : Wf D n := ⟨h.lo, h.hi, h.sec, h.at_, Nat.le_trans h.pend hn, Nat.le_trans h.count hn, Nat.le_trans h.claims hn, h.kinds⟩
theorem lay_len (ps : List (Nat × List (BitVec 8))) : ∀ ls, (lay ps ls).length = ls.length := by
  induction ps with
  | nil => intro ls; rfl
  | cons p ps ih => intro ls; simp [lay, ih]
theorem layK_len (ps : List (Nat × List (BitVec 8))) : ∀ ks ls, (layK ps ks ls).length = ls.length := by
  induction ps with
  | nil => intro ks ls; simp [layK]
  | cons p ps ih =>
    intro ks ls
    match ks with
    | [] => simp [layK]
    | k :: ks => cases k <;> simp [layK, ih]
theorem set_all {ls : List (List (BitVec 8))} {i : Nat} {b : List (BitVec 8)} (h : ∀ l ∈ ls, l.length = 512) (hb : b.length = 512) : ∀ l ∈ ls.set i b, l.length = 512 := by
  intro l hl
  rcases List.mem_or_eq_of_mem_set hl with h1 | rfl
  · exact h l h1
  · exact hb
theorem lay_all (ps : List (Nat × List (BitVec 8))) : ∀ ls, (∀ l ∈ ls, l.length = 512) → (∀ p ∈ ps, p.2.length = 512) → ∀ l ∈ lay ps ls, l.length = 512 := by
  induction ps with
  | nil => intro ls h _; exact h
  | cons p ps ih => intro ls h hp; exact ih _ (set_all h (hp p (by simp))) (fun q hq => hp q (by simp [hq]))
theorem layK_all (ps : List (Nat × List (BitVec 8))) : ∀ ks ls, (∀ l ∈ ls, l.length = 512) → (∀ p ∈ ps, p.2.length = 512) → ∀ l ∈ layK ps ks ls, l.length = 512 := by
  induction ps with
  | nil => intro ks ls h _; simpa [layK] using h
  | cons p ps ih =>
    intro ks ls h hp
    match ks with
    | [] => simpa [layK] using h
    | k :: ks =>
      refine ih ks _ ?_ (fun q hq => hp q (by simp [hq]))
      cases k
      · simpa using h
      · simpa using set_all h (hp p (by simp))
theorem opD_ls (D : Dk) : D.opD.ls = D.ls := by unfold opD; split <;> rfl
theorem opD_ps (D : Dk) : D.opD.ps = D.ps := by unfold opD; split <;> rfl
theorem opD_fs (D : Dk) : D.opD.fs = D.fs := by unfold opD; split <;> rfl
theorem opD_claim (D : Dk) : D.opD.claim = D.claim := by unfold opD; split <;> rfl
theorem opD_done (D : Dk) : D.opD.done ≤ D.done + 1 := by unfold opD; split <;> simp
theorem Wf.op {D : Dk} {m : Nat} (h : Wf D m) : Wf D.opD (m + 1) := by
  have := opD_done D
  have := h.count
  refine ⟨?_, ?_, ?_, ?_, ?_, by omega, ?_, ?_⟩
  · rw [opD_ls]; exact h.lo
  · rw [opD_ls]; exact h.hi
  · rw [opD_ls]; exact h.sec
  · rw [opD_ls, opD_ps]; exact h.at_
  · rw [opD_ps]; have := h.pend; omega
  · rw [opD_claim]; have := h.claims; omega
  · rw [opD_fs]; exact h.kinds
theorem Wf.read {D : Dk} {m : Nat} (h : Wf D m) (i : Int) : Wf (D.readD i) (m + 1) := by
  unfold readD
  split
  · exact h.op
  · exact h.mono (by omega)
theorem Wf.write {D : Dk} {m : Nat} (h : Wf D m) (i : Int) (b : List (BitVec 8)) : Wf (D.writeD i b) (m + 1) := by
  unfold writeD
  split
  · rename_i hi
    split
    · rename_i hb
      have ho := h.op
      split
      · refine ⟨ho.lo, ho.hi, ho.sec, ?_, ?_, ho.count, ho.claims, ho.kinds⟩
        · intro p hp
          simp only [opD_ls]
          rcases List.mem_append.1 hp with hp | hp
          · exact h.at_ p hp
          · simp only [List.mem_singleton] at hp
            subst hp
            simp only [inn, decide_eq_true_eq] at hi
            exact ⟨by simp only; omega, hb⟩
        · simp; exact h.pend
      · exact ho
    · exact h.mono (by omega)
  · exact h.mono (by omega)
theorem Wf.flush {D : Dk} {m : Nat} (h : Wf D m) : Wf D.flushD (m + 1) := by
  unfold flushD
  have ho := h.op
  split
  · refine ⟨?_, ?_, ?_, by simp, by simp, ho.count, ho.claims, ho.kinds⟩
    · simp only [lay_len]; exact h.lo
    · simp only [lay_len]; exact h.hi
    · exact lay_all _ _ h.sec (fun p hp => (h.at_ p hp).2)
  · exact ho
theorem Wf.crash {D : Dk} {m : Nat} (h : Wf D m) (keep : List Bool) : Wf (D.crashD keep) m := by
  unfold crashD
  refine ⟨?_, ?_, ?_, by simp, by simp, by simp, h.claims, by simp⟩
  · simp only [layK_len]; exact h.lo
  · simp only [layK_len]; exact h.hi
  · exact layK_all _ _ _ h.sec (fun p hp => (h.at_ p hp).2)
theorem Wf.take {D : Dk} {m : Nat} (h : Wf D m) : Wf D.claimD (m + 1) :=
  ⟨h.lo, h.hi, h.sec, h.at_, by have := h.pend; simp [claimD]; omega, by have := h.count; simp [claimD]; omega, by have := h.claims; simp [claimD]; omega, h.kinds⟩
theorem armOk_kinds {l : List (Int × Int)} (h : armOk l = true) : ∀ f ∈ l, f.2 = 1 ∨ f.2 = 2 := by
  intro f hf
  obtain ⟨i, hi⟩ := List.mem_iff_getElem?.1 hf
  have hl : i < l.length := (List.getElem?_eq_some_iff.1 hi).1
  simp only [armOk, List.all_eq_true, List.mem_range] at h
  have := h i hl
  simp only [List.getD, hi, Option.getD_some, Bool.and_eq_true, Bool.or_eq_true, decide_eq_true_eq] at this
  exact this.1.2
theorem Wf.arm {D : Dk} {m : Nat} (h : Wf D m) (l : List (Int × Int)) : Wf (D.armD l) m := by
  unfold armD
  split
  · rename_i ha
    refine ⟨h.lo, h.hi, h.sec, h.at_, h.pend, by simp, h.claims, ?_⟩
    refine armOk_kinds ?_
    unfold armE at ha
    split at ha
    · assumption
    · simp at ha
  · exact h
theorem Wf.new (n m : Nat) (h0 : 1 ≤ n) (h1 : n ≤ 8192) : Wf (new n) m := by
  refine ⟨by simp [Dk.new]; exact h0, by simp [Dk.new]; exact h1, ?_, by simp [Dk.new], by simp [Dk.new], by simp [Dk.new], by simp [Dk.new], by simp [Dk.new]⟩
  intro l hl
  simp only [Dk.new, List.mem_replicate] at hl
  rw [hl.2]; exact zs_len
theorem Wf.latest {D : Dk} {m : Nat} (h : Wf D m) (i : Nat) (hi : i < D.ls.length) : (latest D.ls D.ps i).length = 512 := by
  unfold Dk.latest
  split
  · rename_i p hp
    have := List.mem_of_find?_eq_some hp
    exact (h.at_ p (by simpa using this)).2
  · rw [List.getD, List.getElem?_eq_getElem hi]
    exact h.sec _ (List.getElem_mem hi)
end Dk
open Go.RowKit
/-- Rows of bytes, each in a block of its own. -/
def It.rows (e : TypeId) (cap : Nat) (bs : List Nat) (ls : List (List (BitVec 8))) : It where
  ats k := k ∈ bs
  holds W := bs.length = ls.length ∧ bs.Nodup ∧ ∀ (i b : Nat) (l : List (BitVec 8)), bs[i]? = some b → ls[i]? = some l → Own W b cap e l
  lt := by
    rintro W k ⟨h1, _, h3⟩ hk
    obtain ⟨i, hi⟩ := List.mem_iff_getElem?.1 hk
    have hil : i < ls.length := by have := (List.getElem?_eq_some_iff.1 hi).1; omega
    exact (h3 i k _ hi (List.getElem?_eq_getElem hil)).lt
  keep := by
    rintro W W' ⟨h1, h2, h3⟩ hk
    exact ⟨h1, h2, fun i b l hb hl => (h3 i b l hb hl).kept (hk b (List.mem_iff_getElem?.2 ⟨i, hb⟩))⟩
/-- A pool of rows that nobody writes. -/
def It.pool (e : TypeId) (P : List (Nat × Nat × List (BitVec 8))) : It where
  ats k := ∃ x ∈ P, x.1 = k
  holds W := ∀ x ∈ P, Own W x.1 x.2.1 e x.2.2
  lt := by
    rintro W k h ⟨x, hx, rfl⟩
    exact (h x hx).lt
  keep := by
    rintro W W' h hk x hx
    exact (h x hx).kept (hk x.1 ⟨x, hx, rfl⟩)
/-- Many things as one. -/
def It.grp (l : List It) : It where
  ats k := ∃ x ∈ l, x.ats k
  holds W := (∀ x ∈ l, x.holds W) ∧ l.Pairwise It.off
  lt := by
    rintro W k ⟨h, _⟩ ⟨x, hx, hk⟩
    exact x.lt W k (h x hx) hk
  keep := by
    rintro W W' ⟨h, h2⟩ hk
    exact ⟨fun x hx => x.keep W W' (h x hx) fun k hxk => hk k ⟨x, hx, hxk⟩, h2⟩
/-- A plain fact. -/
def It.fact (p : Prop) : It where
  ats _ := False
  holds _ := p
  lt := fun _ _ _ h => h.elim
  keep := fun _ _ h _ => h
theorem Bag.grp_iff {w W : World} {gs rest : List It} : Bag w W (.grp gs :: rest) ↔ Bag w W (gs ++ rest) := by
  rw [bag_iff, bag_iff, List.pairwise_cons, List.pairwise_append]
  constructor
  · rintro ⟨h1, h2, h3, h4, h5⟩
    obtain ⟨h6, h7⟩ := h2 _ List.mem_cons_self
    refine ⟨h1, ?_, ?_, h7, h5, ?_⟩
    · intro x hx
      rcases List.mem_append.1 hx with hx | hx
      · exact h6 x hx
      · exact h2 x (List.mem_cons_of_mem _ hx)
    · intro x hx k hk
      rcases List.mem_append.1 hx with hx | hx
      · exact h3 _ List.mem_cons_self k ⟨x, hx, hk⟩
      · exact h3 x (List.mem_cons_of_mem _ hx) k hk
    · intro x hx y hy k hk
      exact h4 y hy k ⟨x, hx, hk⟩
  · rintro ⟨h1, h2, h3, h4, h5, h6⟩
    refine ⟨h1, ?_, ?_, ?_, h5⟩
    · intro x hx
      rcases List.mem_cons.1 hx with rfl | hx
      · exact ⟨fun y hy => h2 y (List.mem_append_left _ hy), h4⟩
      · exact h2 x (List.mem_append_right _ hx)
    · intro x hx k hk
      rcases List.mem_cons.1 hx with rfl | hx
      · obtain ⟨y, hy, hk⟩ := hk
        exact h3 y (List.mem_append_left _ hy) k hk
      · exact h3 x (List.mem_append_right _ hx) k hk
    · rintro y hy k ⟨x, hx, hk⟩
      exact h6 x hx y hy k hk
theorem perm_eraseIdx {α : Type} {l : List α} {i : Nat} {x : α} (h : l[i]? = some x) : l.Perm (x :: l.eraseIdx i) := by
  obtain ⟨hi, rfl⟩ := List.getElem?_eq_some_iff.1 h
  have e : l = l.take i ++ l[i] :: l.drop (i + 1) := by rw [← List.drop_eq_getElem_cons hi, List.take_append_drop]
  rw [List.eraseIdx_eq_take_drop_succ]
  conv => lhs; rw [e]
  exact List.perm_middle
theorem perm_set {α : Type} {l : List α} {i : Nat} {x : α} (y : α) (h : l[i]? = some x) : (y :: l.eraseIdx i).Perm (l.set i y) := by
  obtain ⟨hi, rfl⟩ := List.getElem?_eq_some_iff.1 h
  rw [List.eraseIdx_eq_take_drop_succ, List.set_eq_take_append_cons_drop, if_pos hi]
  exact List.perm_middle.symm
theorem Bag.front {w W : World} {l : List It} (h : Bag w W l) {i : Nat} {x : It} (hi : l[i]? = some x) : Bag w W (x :: l.eraseIdx i) := h.perm (perm_eraseIdx hi)
theorem Bag.back {w W : World} {l : List It} {i : Nat} {x y : It} (h : Bag w W (y :: l.eraseIdx i)) (hi : l[i]? = some x) : Bag w W (l.set i y) := h.perm (perm_set y hi)
theorem Bag.fact {w W : World} {l : List It} (h : Bag w W l) {p : Prop} (hp : p) : Bag w W (.fact p :: l) :=
  h.cons (Below.refl _ W) hp (fun _ hk => hk.elim)
theorem Bag.factOf {w W : World} {l : List It} (h : Bag w W l) (i : Nat) {p : Prop} (hi : l[i]? = some (.fact p)) : p := h.holds i _ hi
theorem Bag.factSet {w W : World} {l : List It} (h : Bag w W l) (i : Nat) {p q : Prop} (hi : l[i]? = some (.fact p)) (hq : q) : Bag w W (l.set i (.fact q)) :=
  h.turn i hi (Only.refl (fun _ => False) W) (fun _ hk => hk) hq (fun _ hk => hk.elim)
namespace Bag
variable {w W W' : World} {l : List It}
theorem rowsNil (h : Bag w W l) (e : TypeId) (cap : Nat) : Bag w W (.rows e cap [] [] :: l) :=
  h.cons (Below.refl _ W) ⟨rfl, List.nodup_nil, by simp⟩ (by rintro k hk; cases hk)
theorem rowsLen (h : Bag w W l) (i : Nat) {e : TypeId} {cap : Nat} {bs : List Nat} {ls : List (List (BitVec 8))} (hi : l[i]? = some (.rows e cap bs ls)) : bs.length = ls.length := (h.holds i _ hi).1
theorem rowsOwn (h : Bag w W l) (i : Nat) {e : TypeId} {cap : Nat} {bs : List Nat} {ls : List (List (BitVec 8))} (hi : l[i]? = some (.rows e cap bs ls)) (j : Nat) {b : Nat} {x : List (BitVec 8)} (hb : bs[j]? = some b) (hx : ls[j]? = some x) : Own W b cap e x := (h.holds i _ hi).2.2 j b x hb hx
/-- One row turns. -/
theorem rowsSet (h : Bag w W l) (i : Nat) {e : TypeId} {cap : Nat} {bs : List Nat} {ls : List (List (BitVec 8))} (hi : l[i]? = some (.rows e cap bs ls)) (j : Nat) {b : Nat} {x : List (BitVec 8)} (hb : bs[j]? = some b) (ho : Only (fun k => k = b) W W') (hx : Own W' b cap e x) : Bag w W' (l.set i (.rows e cap bs (ls.set j x))) := by
  obtain ⟨h1, h2, h3⟩ := h.holds i _ hi
  refine h.turn i hi ho (fun k hk => by subst hk; exact List.mem_iff_getElem?.2 ⟨j, hb⟩) ⟨by simpa using h1, h2, ?_⟩ (fun k hk => Or.inl hk)
  intro j' b' x' hb' hx'
  by_cases hj : j = j'
  · subst hj
    rw [hb] at hb'
    cases hb'
    have hl : j < ls.length := by have := (List.getElem?_eq_some_iff.1 hb).1; omega
    rw [List.getElem?_set_self hl] at hx'
    cases hx'
    exact hx
  · rw [List.getElem?_set_ne hj] at hx'
    have hne : b' ≠ b := by
      intro he
      subst he
      obtain ⟨a1, a2⟩ := List.getElem?_eq_some_iff.1 hb
      obtain ⟨c1, c2⟩ := List.getElem?_eq_some_iff.1 hb'
      exact hj ((List.getElem_inj h2).1 (a2.trans c2.symm))
    exact (h3 j' b' x' hb' hx').only ho hne
/-- A row more, in a new block. -/
theorem rowsPush (h : Bag w W l) (i : Nat) {e : TypeId} {cap : Nat} {bs : List Nat} {ls : List (List (BitVec 8))} (hi : l[i]? = some (.rows e cap bs ls)) (hb : Below W.heap.size W W') {g : Nat} {x : List (BitVec 8)} (hx : Own W' g cap e x) (hg : W.heap.size ≤ g) : Bag w W' (l.set i (.rows e cap (bs ++ [g]) (ls ++ [x]))) := by
  obtain ⟨h1, h2, h3⟩ := h.holds i _ hi
  have hlt : ∀ b ∈ bs, b < W.heap.size := fun b hb => h.lt i hi b hb
  refine h.turn i hi (S := fun _ => False) (Only.of_below hb) (fun k hk => hk.elim) ⟨by simp [h1], ?_, ?_⟩ ?_
  · rw [List.nodup_append]
    refine ⟨h2, by simp, ?_⟩
    intro a ha b hb
    simp only [List.mem_singleton] at hb
    subst hb
    have := hlt a ha
    omega
  · intro j b y hj hy
    by_cases hjl : j < bs.length
    · rw [List.getElem?_append_left hjl] at hj
      rw [List.getElem?_append_left (by omega)] at hy
      exact (h3 j b y hj hy).below hb (h3 j b y hj hy).lt
    · have hj0 : j = bs.length := by
        have := (List.getElem?_eq_some_iff.1 hj).1
        simp at this; omega
      subst hj0
      rw [List.getElem?_append_right (Nat.le_refl _)] at hj
      rw [List.getElem?_append_right (by omega)] at hy
      simp [h1] at hj hy
      subst hj hy
      exact hx
  · intro k hk
    rcases List.mem_append.1 hk with hk | hk
    · exact Or.inl hk
    · simp only [List.mem_singleton] at hk
      subst hk; exact Or.inr hg
/-- The rows are let go. -/
theorem rowsDrop (h : Bag w W l) (i : Nat) {e : TypeId} {cap : Nat} {bs : List Nat} {ls : List (List (BitVec 8))} (hi : l[i]? = some (.rows e cap bs ls)) : Bag w W (l.set i (.rows e cap [] [])) :=
  h.turn i hi (Only.refl (fun _ => False) W) (fun _ hk => hk.elim) ⟨rfl, List.nodup_nil, by simp⟩ (by rintro k hk; cases hk)
theorem poolNil (h : Bag w W l) (e : TypeId) : Bag w W (.pool e [] :: l) :=
  h.cons (Below.refl _ W) (by simp [It.pool]) (by rintro k ⟨x, hx, _⟩; cases hx)
theorem poolOwn (h : Bag w W l) (i : Nat) {e : TypeId} {P : List (Nat × Nat × List (BitVec 8))} (hi : l[i]? = some (.pool e P)) {g cap : Nat} {x : List (BitVec 8)} (hx : (g, cap, x) ∈ P) : Own W g cap e x := h.holds i _ hi _ hx
theorem poolPush (h : Bag w W l) (i : Nat) {e : TypeId} {P : List (Nat × Nat × List (BitVec 8))} (hi : l[i]? = some (.pool e P)) (hb : Below W.heap.size W W') {g cap : Nat} {x : List (BitVec 8)} (hx : Own W' g cap e x) (hg : W.heap.size ≤ g) : Bag w W' (l.set i (.pool e ((g, cap, x) :: P))) := by
  have h1 := h.holds i _ hi
  refine h.turn i hi (S := fun _ => False) (Only.of_below hb) (fun k hk => hk.elim) ?_ ?_
  · intro y hy
    rcases List.mem_cons.1 hy with rfl | hy
    · exact hx
    · exact (h1 y hy).below hb (h1 y hy).lt
  · rintro k ⟨y, hy, rfl⟩
    rcases List.mem_cons.1 hy with rfl | hy
    · exact Or.inr hg
    · exact Or.inl ⟨y, hy, rfl⟩
/-- A list is let go: nil stands in its place. -/
theorem lstDrop (h : Bag w W l) (i : Nat) {e size n : Nat} {v : Value} {xs : List Value} (hi : l[i]? = some (.lst e size v n xs)) : Bag w W (l.set i (.lst e size (.slice none 0 0) 0 [])) :=
  h.turn i hi (Only.refl (fun _ => False) W) (fun _ hk => hk.elim) ⟨by simp, Or.inl ⟨rfl, rfl⟩⟩ (by rintro k ⟨_, _, hk⟩; cases hk)
end Bag
open Go.RowKit
/-- Pairs, laid out one behind the other. -/
def prs {α : Type} (f g : α → Value) : List α → List Value
  | [] => []
  | x :: r => f x :: g x :: prs f g r
theorem prs_len {α : Type} (f g : α → Value) (l : List α) : (prs f g l).length = l.length * 2 := by
  induction l with
  | nil => rfl
  | cons x r ih => simp [prs, ih]; omega
theorem prs_app {α : Type} (f g : α → Value) (l m : List α) : prs f g (l ++ m) = prs f g l ++ prs f g m := by
  induction l with
  | nil => rfl
  | cons x r ih => simp [prs, ih]
theorem prs_get {α : Type} (f g : α → Value) (l : List α) : ∀ (j : Nat) (x : α), l[j]? = some x → (prs f g l)[j * 2]? = some (f x) ∧ (prs f g l)[j * 2 + 1]? = some (g x) := by
  induction l with
  | nil => intro j x h; simp at h
  | cons y r ih =>
    intro j x h
    match j with
    | 0 => simp at h; subst h; exact ⟨rfl, rfl⟩
    | j + 1 =>
      have := ih j x (by simpa using h)
      rw [show (j + 1) * 2 = j * 2 + 1 + 1 by omega]
      simpa [prs] using this
theorem Bag.append2 {P : Program} {w W : World} {l : List It} {ops : Array Oper} {rest : List Oper} {o : Oper} {a : Act} {Q : Exit → Act → World → Prop} (hgd : o.guard = none) (s x : Operand) (t : TypeId)
    (ho : o.op = .call { callee := .builtin .append, args := #[s, x], argTypes := #[t, t] })
    (e : TypeId) (i : TypeInfo) (z : Value) (bytes : Nat) (ht : P.underlying t = some (.slice e)) (hi : P.info? e = some i) (hz : i.zero = some z) (hsize : i.size = 2) (hby : i.bytes = bytes) (hzs : z.cells.size = 2)
    (k : Nat) (v : Value) (n : Nat) (xs : List Value) (hB : Bag w W l) (hk : l[k]? = some (.lst e 2 v n xs)) (hs : a.eval s = v)
    (b off : Nat) (hx : a.eval x = .slice (some ⟨b, off, none⟩) 1 1) (u1 u2 : Value) (hu1 : W.cell? ⟨b, off, none⟩ = some u1) (hu2 : W.cell? ⟨b, off + 1, none⟩ = some u2) (h1 : u1.oneCell' = true) (h2 : u2.oneCell' = true) (hn : n + 1 ≤ maxLen) (hbytes : (n + 1) * bytes ≤ 140737488355328)
    (h : ∀ g cap W', Bag w W' (l.set k (.lst e 2 (.slice (some ⟨g, 0, none⟩) (n + 1) cap) (n + 1) (xs ++ [u1, u2]))) → W.heap.size ≤ W'.heap.size → wpList P ops Q rest (a.put o.dst (.slice (some ⟨g, 0, none⟩) (n + 1) cap)) W') :
    wpList P ops Q (o :: rest) a W := by
  have hown := hB.lst k hk
  refine wpList_append_lies (P := P) W hgd s x t ho 0 e i z 2 bytes ht hi hz hsize hby hzs (by decide) v n xs hs hown ⟨b, off, none⟩ 1 1 [u1, u2] hx rfl ?_ ?_ (by decide) hn hbytes (Nat.zero_le _) _ rfl ?_
  · intro j y hj
    match j with
    | 0 => simp at hj; subst hj; rw [← hu1]; rfl
    | 1 => simp at hj; subst hj; rw [← hu2]; rfl
    | j + 2 => simp at hj
  · intro y hy
    simp at hy
    rcases hy with rfl | rfl
    · exact h1
    · exact h2
  · intro g cap W' h2 h3 h4 h5
    refine h g cap W' (hB.turn k hk (S := fun b => v.ownBlock = some b) ⟨h3.os, h3.tape, h3.output, h3.size, fun b hb hne => h3.block b hb fun e => hne e.symm⟩ ?_ (It.lst_of h2) ?_) h3.size
    · intro b hb
      rcases hown.2 with ⟨rfl, _⟩ | ⟨g', cap', cur, rfl, _⟩
      · cases hb
      · simp only [Value.ownBlock, Option.some.injEq] at hb
        subst hb
        exact ⟨_, _, rfl⟩
    · rintro b ⟨n', cap', hb⟩
      simp only [Value.slice.injEq, Option.some.injEq, Addr.mk.injEq] at hb
      obtain ⟨⟨rfl, _⟩, _⟩ := hb
      rcases h4 with h4 | h4
      · left
        rcases hown.2 with ⟨rfl, _⟩ | ⟨g', cap', cur, rfl, _⟩
        · cases h4
        · simp only [Value.ownBlock, Option.some.injEq] at h4
          subst h4
          exact ⟨_, _, rfl⟩
      · right; omega
/-- The same at a step of a region that draws. -/
theorem Bag.appendStep2 {P : Program} {w W : World} {l : List It} {ops : Array Oper} {o : Oper} {a : Act} {K : Act → World → Prop} {Q : Exit → Act → World → Prop} {G : Prop} (hgd : o.guard = none) (s x : Operand) (t : TypeId)
    (ho : o.op = .call { callee := .builtin .append, args := #[s, x], argTypes := #[t, t] })
    (e : TypeId) (i : TypeInfo) (z : Value) (bytes : Nat) (ht : P.underlying t = some (.slice e)) (hi : P.info? e = some i) (hz : i.zero = some z) (hsize : i.size = 2) (hby : i.bytes = bytes) (hzs : z.cells.size = 2)
    (k : Nat) (v : Value) (n : Nat) (xs : List Value) (hB : Bag w W l) (hk : l[k]? = some (.lst e 2 v n xs)) (hs : a.eval s = v)
    (b off : Nat) (hx : a.eval x = .slice (some ⟨b, off, none⟩) 1 1) (u1 u2 : Value) (hu1 : W.cell? ⟨b, off, none⟩ = some u1) (hu2 : W.cell? ⟨b, off + 1, none⟩ = some u2) (h1 : u1.oneCell' = true) (h2 : u2.oneCell' = true) (hn : n + 1 ≤ maxLen) (hbytes : (n + 1) * bytes ≤ 140737488355328)
    (h : ∀ g cap W', Bag w W' (l.set k (.lst e 2 (.slice (some ⟨g, 0, none⟩) (n + 1) cap) (n + 1) (xs ++ [u1, u2]))) → W.heap.size ≤ W'.heap.size → K (a.put o.dst (.slice (some ⟨g, 0, none⟩) (n + 1) cap)) W') :
    if Region.wanted o (yielded ops a.tmps) = true then Oper.wp P o a W K Q else G := by
  have hown := hB.lst k hk
  refine step_append_lies (P := P) W hgd s x t ho 0 e i z 2 bytes ht hi hz hsize hby hzs (by decide) v n xs hs hown ⟨b, off, none⟩ 1 1 [u1, u2] hx rfl ?_ ?_ (by decide) hn hbytes (Nat.zero_le _) _ rfl ?_
  · intro j y hj
    match j with
    | 0 => simp at hj; subst hj; rw [← hu1]; rfl
    | 1 => simp at hj; subst hj; rw [← hu2]; rfl
    | j + 2 => simp at hj
  · intro y hy
    simp at hy
    rcases hy with rfl | rfl
    · exact h1
    · exact h2
  · intro g cap W' h2 h3 h4 h5
    refine h g cap W' (hB.turn k hk (S := fun b => v.ownBlock = some b) ⟨h3.os, h3.tape, h3.output, h3.size, fun b hb hne => h3.block b hb fun e => hne e.symm⟩ ?_ (It.lst_of h2) ?_) h3.size
    · intro b hb
      rcases hown.2 with ⟨rfl, _⟩ | ⟨g', cap', cur, rfl, _⟩
      · cases hb
      · simp only [Value.ownBlock, Option.some.injEq] at hb
        subst hb
        exact ⟨_, _, rfl⟩
    · rintro b ⟨n', cap', hb⟩
      simp only [Value.slice.injEq, Option.some.injEq, Addr.mk.injEq] at hb
      obtain ⟨⟨rfl, _⟩, _⟩ := hb
      rcases h4 with h4 | h4
      · left
        rcases hown.2 with ⟨rfl, _⟩ | ⟨g', cap', cur, rfl, _⟩
        · cases h4
        · simp only [Value.ownBlock, Option.some.injEq] at h4
          subst h4
          exact ⟨_, _, rfl⟩
      · right; omega
/-- An element of a list of pairs. -/
theorem Bag.elem2 {w W : World} {l : List It} (h : Bag w W l) (k : Nat) {e n : Nat} {v : Value} {xs : List Value} (hk : l[k]? = some (.lst e 2 v n xs)) (j : Nat) (hj : j < n) :
    ∃ g cap, v = .slice (some ⟨g, 0, none⟩) n cap ∧ W.cell? ⟨g, j * 2, none⟩ = xs[j * 2]? ∧ W.cell? ⟨g, j * 2 + 1, none⟩ = xs[j * 2 + 1]? := by
  obtain ⟨h1, h2⟩ := h.lst k hk
  rcases h2 with ⟨_, h0⟩ | ⟨g, cap, cur, rfl, _, hh, hc, _, hs, ht⟩
  · omega
  · refine ⟨g, cap, rfl, ?_, ?_⟩
    · rw [cell_of_row W g _ cur e (0, 0) hh, ← ht, List.getElem?_take_of_lt (by omega), Array.getElem?_toList]
    · rw [cell_of_row W g _ cur e (0, 0) hh, ← ht, List.getElem?_take_of_lt (by omega), Array.getElem?_toList]
theorem Bag.lstForm2 {w W : World} {l : List It} (h : Bag w W l) (k : Nat) {e n : Nat} {v : Value} {xs : List Value} (hk : l[k]? = some (.lst e 2 v n xs)) : ∃ ao cap, v = .slice ao n cap ∧ n ≤ cap := by
  rcases (h.lst k hk).2 with ⟨rfl, rfl⟩ | ⟨g, cap, cur, rfl, _, _, hc, _⟩
  · exact ⟨none, 0, rfl, Nat.le_refl _⟩
  · exact ⟨_, cap, rfl, hc⟩
/-- The nil list, or a block. -/
theorem Bag.lstAt2 {w W : World} {l : List It} (h : Bag w W l) (k : Nat) {e n : Nat} {v : Value} {xs : List Value} (hk : l[k]? = some (.lst e 2 v n xs)) (hn : 0 < n) : ∃ g cap, v = .slice (some ⟨g, 0, none⟩) n cap ∧ n ≤ cap ∧ ∀ j, j < n → W.cell? ⟨g, j * 2, none⟩ = xs[j * 2]? ∧ W.cell? ⟨g, j * 2 + 1, none⟩ = xs[j * 2 + 1]? := by
  obtain ⟨h1, h2⟩ := h.lst k hk
  rcases h2 with ⟨_, h0⟩ | ⟨g, cap, cur, rfl, _, hh, hc, _, hs, ht⟩
  · omega
  · refine ⟨g, cap, rfl, hc, fun j hj => ⟨?_, ?_⟩⟩
    · rw [cell_of_row W g _ cur e (0, 0) hh, ← ht, List.getElem?_take_of_lt (by omega), Array.getElem?_toList]
    · rw [cell_of_row W g _ cur e (0, 0) hh, ← ht, List.getElem?_take_of_lt (by omega), Array.getElem?_toList]
/-- What was made of nothing, beside what was there. -/
theorem Bag.join {w W W' : World} {l new : List It} (h : Bag w W l) (k : Bag W W' new) : Bag w W' (new ++ l) := by
  obtain ⟨h1, h2, h3, h4⟩ := bag_iff.1 (h.call k.below)
  obtain ⟨k1, k2, k3, k4⟩ := bag_iff.1 k
  obtain ⟨_, g2, _, _⟩ := bag_iff.1 h
  refine bag_iff.2 ⟨h1, ?_, ?_, ?_⟩
  · intro x hx
    rcases List.mem_append.1 hx with hx | hx
    · exact k2 x hx
    · exact h2 x hx
  · intro x hx b hb
    rcases List.mem_append.1 hx with hx | hx
    · exact Nat.le_trans h.size (k3 x hx b hb)
    · exact h3 x hx b hb
  · refine List.pairwise_append.2 ⟨k4, h4, ?_⟩
    intro x hx y hy b hb hb2
    have e1 := k3 x hx b hb
    have e2 := y.lt W b (g2 y hy) hb2
    omega
open Go.RowKit
/-- Where a device lies: its two lists, the blocks of its sectors and of what pends, what is armed. -/
structure Lay where
  lv : Value
  pv : Value
  bs : List Nat
  qs : List Nat
  mt : Option (Nat × Value)
def slv (b : Nat) : Value := .slice (some ⟨b, 0, none⟩) 512 512
def Lay.mv (L : Lay) : Value := match L.mt with
  | none => .func (.func 50) #[] #[]
  | some c => .func (.func 42) #[] #[.pointer (some ⟨c.1, 0, none⟩)]
def fcs (fs : List (Int × Int)) : List Value := prs (fun f => .int .i64 f.1) (fun f => .int .i64 f.2) fs
def Lay.mts (L : Lay) (fs : List (Int × Int)) : List It := match L.mt with
  | none => [.fact (fs = [])]
  | some c => [.box c.1 #[c.2] 30, .lst 52 2 c.2 fs.length (fcs fs)]
def zp (ps : List (Nat × List (BitVec 8))) (qs : List Nat) : List (Nat × Nat) := (ps.map Prod.fst).zip qs
def pcs (ps : List (Nat × List (BitVec 8))) (qs : List Nat) : List Value := prs (fun x => .int .i64 (x.1 : Nat)) (fun x => slv x.2) (zp ps qs)
def Dk.box (D : Dk) (L : Lay) (p : Nat) : It := .box p #[L.lv, L.pv, .bool D.off, .int .i64 (D.done : Nat), .int .i64 (D.claim : Nat), L.mv] 76
def dkl (p : Nat) (L : Lay) (D : Dk) (rest : List It) : List It :=
  D.box L p :: .lst 29 1 L.lv D.ls.length (L.bs.map slv) :: .rows 5 512 L.bs D.ls :: .lst 84 2 L.pv D.ps.length (pcs D.ps L.qs) :: .rows 5 512 L.qs (D.ps.map Prod.snd) :: .grp (L.mts D.fs) :: rest
def It.disk (p : Nat) (L : Lay) (D : Dk) : It := .grp (dkl p L D [])
theorem disk_iff {w W : World} {p : Nat} {L : Lay} {D : Dk} {rest : List It} : Bag w W (.disk p L D :: rest) ↔ Bag w W (dkl p L D rest) := Bag.grp_iff
theorem zp_len (ps : List (Nat × List (BitVec 8))) (qs : List Nat) (h : qs.length = ps.length) : (zp ps qs).length = ps.length := by simp [zp, h]
theorem zp_get {ps : List (Nat × List (BitVec 8))} {qs : List Nat} {j : Nat} {p : Nat × List (BitVec 8)} {q : Nat} (hp : ps[j]? = some p) (hq : qs[j]? = some q) : (zp ps qs)[j]? = some (p.1, q) := by
  unfold zp
  rw [List.getElem?_zip_eq_some]
  exact ⟨by rw [List.getElem?_map, hp]; rfl, hq⟩
theorem pcs_get {ps : List (Nat × List (BitVec 8))} {qs : List Nat} {j : Nat} {p : Nat × List (BitVec 8)} {q : Nat} (hp : ps[j]? = some p) (hq : qs[j]? = some q) : (pcs ps qs)[j * 2]? = some (.int .i64 (p.1 : Nat)) ∧ (pcs ps qs)[j * 2 + 1]? = some (slv q) :=
  prs_get _ _ _ j _ (zp_get hp hq)
theorem pcs_app {ps : List (Nat × List (BitVec 8))} {qs : List Nat} (h : qs.length = ps.length) (p : Nat × List (BitVec 8)) (q : Nat) : pcs (ps ++ [p]) (qs ++ [q]) = pcs ps qs ++ [.int .i64 (p.1 : Nat), slv q] := by
  unfold pcs zp
  rw [List.map_append, List.zip_append (by simp [h]), prs_app]
  rfl
theorem fcs_get {fs : List (Int × Int)} {j : Nat} {f : Int × Int} (h : fs[j]? = some f) : (fcs fs)[j * 2]? = some (.int .i64 f.1) ∧ (fcs fs)[j * 2 + 1]? = some (.int .i64 f.2) := prs_get _ _ _ j _ h
section
variable {w W : World} {p : Nat} {L : Lay} {D : Dk} {rest : List It}
theorem dkCells (h : Bag w W (dkl p L D rest)) : W.cell? ⟨p, 0, none⟩ = some L.lv ∧ W.cell? ⟨p, 1, none⟩ = some L.pv ∧ W.cell? ⟨p, 2, none⟩ = some (.bool D.off) ∧ W.cell? ⟨p, 3, none⟩ = some (.int .i64 (D.done : Nat)) ∧ W.cell? ⟨p, 4, none⟩ = some (.int .i64 (D.claim : Nat)) ∧ W.cell? ⟨p, 5, none⟩ = some L.mv ∧ ∀ i, W.frozen? ⟨p, i, none⟩ = false :=
  cells6 (h.box 0 rfl)
theorem dkLv (h : Bag w W (dkl p L D rest)) (hn : 1 ≤ D.ls.length) : ∃ g cap, L.lv = .slice (some ⟨g, 0, none⟩) D.ls.length cap ∧ D.ls.length ≤ cap ∧ L.bs.length = D.ls.length ∧ ∀ (j : Nat) (b : Nat), L.bs[j]? = some b → W.cell? ⟨g, j, none⟩ = some (slv b) := by
  have hl := h.rowsLen 2 rfl
  obtain ⟨h1, h2⟩ := h.lst 1 rfl
  rcases h2 with ⟨_, h0⟩ | ⟨g, cap, cur, h3, _, hh, hc, _, hs, ht⟩
  · omega
  · refine ⟨g, cap, h3, hc, hl, fun j b hj => ?_⟩
    have hjl : j < D.ls.length := by have := (List.getElem?_eq_some_iff.1 hj).1; omega
    rw [cell_of_row W g j cur _ (0, 0) hh]
    have : (cur.toList.take (D.ls.length * 1))[j]? = (L.bs.map slv)[j]? := by rw [ht]
    rw [List.getElem?_take_of_lt (by omega), List.getElem?_map, hj, Array.getElem?_toList] at this
    exact this
/-- The list of what pends: nil, or its cells. -/
theorem dkPv (h : Bag w W (dkl p L D rest)) : ∃ ao cap, L.pv = .slice ao D.ps.length cap ∧ D.ps.length ≤ cap ∧ L.qs.length = D.ps.length ∧ (0 < D.ps.length → ∃ g, ao = some ⟨g, 0, none⟩ ∧ ∀ (j : Nat) (x : Nat × List (BitVec 8)) (q : Nat), D.ps[j]? = some x → L.qs[j]? = some q → W.cell? ⟨g, j * 2, none⟩ = some (.int .i64 (x.1 : Nat)) ∧ W.cell? ⟨g, j * 2 + 1, none⟩ = some (slv q)) := by
  have hl := h.rowsLen 4 rfl
  rw [List.length_map] at hl
  obtain ⟨ao, cap, h1, h2⟩ := h.lstForm2 3 rfl
  refine ⟨ao, cap, h1, h2, hl, fun h0 => ?_⟩
  obtain ⟨g, cap', h3, _, h4⟩ := h.lstAt2 3 rfl h0
  rw [h1] at h3
  simp only [Value.slice.injEq, true_and] at h3
  obtain ⟨rfl, rfl⟩ := h3
  refine ⟨g, rfl, fun j x q hx hq => ?_⟩
  have hjl : j < D.ps.length := (List.getElem?_eq_some_iff.1 hx).1
  obtain ⟨e1, e2⟩ := h4 j hjl
  obtain ⟨c1, c2⟩ := pcs_get hx hq
  exact ⟨e1.trans c1, e2.trans c2⟩
end
end Go.Proofs.YthaiibfnjgfgjaaDoor
