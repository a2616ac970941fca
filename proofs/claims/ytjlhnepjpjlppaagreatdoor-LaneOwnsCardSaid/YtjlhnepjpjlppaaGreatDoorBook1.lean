/- A list of a bag: one element set; append as a step of a region that draws. No program in sight. -/
import Derived.Test.YtjlhnepjpjlppaaGreatDoorBookW
namespace Go.Proofs.YtjlhnepjpjlppaaGreatDoor
open Go.RowKit
theorem Bag.lstSet {w W : World} {l : List It} (h : Bag w W l) (k : Nat) {e : TypeId} {v : Value} {xs : List Value} (hk : l[k]? = some (.ls e v xs)) (j : Nat) (hj : j < xs.length) (u : Value) {g cap : Nat} (hv : v = .slice (some ⟨g, 0, none⟩) xs.length cap) :
    Bag w (W.setCell ⟨g, j, none⟩ u) (l.set k (.ls e v (xs.set j u))) := by
  have hown := h.lst k hk
  obtain ⟨h1, h2⟩ := hown
  rcases h2 with ⟨_, h0⟩ | ⟨g', cap', cur, hv', hg, hh, hc, hm, hs, ht⟩
  · omega
  · rw [hv] at hv'
    simp only [Value.slice.injEq, Option.some.injEq, Addr.mk.injEq, and_true, true_and] at hv'
    obtain ⟨rfl, rfl⟩ := hv'
    refine h.turn k hk (Only.setCell W g j u) (fun b hb => ⟨xs.length, cap, by subst hb; exact hv⟩) ?_ (fun b hb => Or.inl hb)
    refine ⟨by simp, Or.inr ⟨g, cap, _, by rw [hv]; simp, Nat.zero_le _, heap_setCell_same W g j cur e u hh, by simpa using hc, hm, by simpa using hs, ?_⟩⟩
    simp only [Array.toList_setIfInBounds, List.length_set, Nat.mul_one] at ht ⊢
    rw [← ht, List.take_set]
    simp only [ht]
theorem Bag.appendStep {P : Program} {w W : World} {l : List It} {ops : Array Oper} {o : Oper} {a : Act} {K : Act → World → Prop} {Q : Exit → Act → World → Prop} {G : Prop} (hgd : o.guard = none) (s x : Operand) (t : TypeId)
    (ho : o.op = .call { callee := .builtin .append, args := #[s, x], argTypes := #[t, t] })
    (e : TypeId) (i : TypeInfo) (z : Value) (bytes : Nat) (ht : P.underlying t = some (.slice e)) (hi : P.info? e = some i) (hz : i.zero = some z) (hsize : i.size = 1) (hby : i.bytes = bytes) (hzs : z.cells.size = 1)
    (k : Nat) (v : Value) (xs : List Value) (hB : Bag w W l) (hk : l[k]? = some (.ls e v xs)) (hs : a.eval s = v)
    (ad : Addr) (hx : a.eval x = .slice (some ad) 1 1) (u : Value) (hu : W.cell? ad = some u) (h1 : u.oneCell' = true) (hn : xs.length + 1 ≤ maxLen) (hbytes : (xs.length + 1) * bytes ≤ 140737488355328)
    (h : ∀ g cap W', Bag w W' (l.set k (.ls e (.slice (some ⟨g, 0, none⟩) (xs.length + 1) cap) (xs ++ [u]))) → W.heap.size ≤ W'.heap.size → K (a.put o.dst (.slice (some ⟨g, 0, none⟩) (xs.length + 1) cap)) W') :
    if Region.wanted o (yielded ops a.tmps) = true then Oper.wp P o a W K Q else G := by
  have hown := hB.lst k hk
  refine step_append_lies (P := P) W hgd s x t ho 0 e i z 1 bytes ht hi hz hsize hby hzs (by decide) v xs.length xs hs hown ad 1 1 [u] hx rfl ?_ ?_ (by decide) hn hbytes (Nat.zero_le _) _ rfl ?_
  · intro j y hj
    match j with
    | 0 =>
      simp at hj; subst hj
      rw [← hu]
      obtain ⟨b, o, sp⟩ := ad
      rfl
    | j + 1 => simp at hj
  · intro y hy
    simp at hy; subst hy; exact h1
  · intro g cap W' h2 h3 h4 h5
    refine h g cap W' (hB.turn k hk (S := fun b => v.ownBlock = some b) ⟨h3.os, h3.tape, h3.output, h3.size, fun b hb hne => h3.block b hb fun e => hne e.symm⟩ ?_ ?_ ?_) h3.size
    · intro b hb
      rcases hown.2 with ⟨rfl, _⟩ | ⟨g', cap', cur, rfl, _⟩
      · cases hb
      · simp only [Value.ownBlock, Option.some.injEq] at hb
        subst hb
        exact ⟨_, _, rfl⟩
    · have := It.lst_of h2
      unfold It.ls
      simpa using this
    · rintro b ⟨n', cap', hb⟩
      simp only [Value.slice.injEq, Option.some.injEq, Addr.mk.injEq] at hb
      obtain ⟨⟨rfl, _⟩, _⟩ := hb
      rcases h4 with h4 | h4
      · left
        rcases hown.2 with ⟨rfl, _⟩ | ⟨g', cap', cur, rfl, _⟩
        · cases h4
        · simp only [Value.ownBlock, Option.some.injEq] at h4
          subst h4
          exact ⟨_, _, rfl⟩
      · right; omega
/-- append of a byte onto what a list was grown to, as a step of a region that draws. -/
theorem entStep {P : Program} {w W : World} {l1 l2 : List It} {ops : Array Oper} {o : Oper} {a : Act} {K : Act → World → Prop} {Q : Exit → Act → World → Prop} {G : Prop} (hgd : o.guard = none) (s x : Operand) (t : TypeId)
    (ho : o.op = .call { callee := .builtin .append, args := #[s, x], argTypes := #[t, t] })
    (e : TypeId) (i : TypeInfo) (ht : P.underlying t = some (.slice e)) (hi : P.info? e = some i) (hz : i.zero = some (.int .u8 0)) (hsize : i.size = 1) (hby : i.bytes = 1)
    (E : Ent) (hB : Bag w W (l1 ++ It.ent e E :: l2)) (hs : a.eval s = E.g) (ad : Addr) (hx : a.eval x = .slice (some ad) 1 1) (b : BitVec 8) (hu : W.cell? ad = some (.int .u8 (n8 b))) (hn : E.m.length + 1 ≤ 140737488355328)
    (h : ∀ go gc W', Bag w W' (l1 ++ It.ent e { E with go := go, gc := gc, m := E.m ++ [b] } :: l2) → K (a.put o.dst (.slice go (E.m.length + 1) gc)) W') :
    if Region.wanted o (yielded ops a.tmps) = true then Oper.wp P o a W K Q else G := by
  have hw : Region.wanted o (yielded ops a.tmps) = true := by simp [Region.wanted, hgd]
  rw [if_pos hw]
  obtain ⟨go, gc, W', hrun, h1, h2, h3⟩ := entAppend (P := P) (W := W) t o.type e i ht hi hz hsize hby E hB.midAt ad b hu hn
  unfold Oper.wp
  simp [execOp, ho, resolve, invoke, builtin, hs, hx, hrun, Result.andThen]
  refine h go gc W' (hB.mid h2 (fun _ h => h) h1 ?_)
  rintro k (⟨a', ha, rfl⟩ | ⟨a', ha, rfl⟩)
  · exact Or.inl (Or.inl ⟨a', ha, rfl⟩)
  · rcases h3 a' ha with h4 | h4
    · exact Or.inl (Or.inr ⟨a', h4, rfl⟩)
    · exact Or.inr h4
end Go.Proofs.YtjlhnepjpjlppaaGreatDoor
