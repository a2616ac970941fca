/- A bag: what a walk owns in memory, all in one fact: boxes whose cells are known, rows of bytes, .. each in a block of its own. No program in sight. -/
import Derived.Test.YthaiibfnjgfgjaaDoorKit
namespace Go.Proofs.YthaiibfnjgfgjaaDoor
open Go.RowKit
/-- One thing in memory: which blocks it takes, what holds of it. -/
structure It where
  ats : Nat → Prop
  holds : World → Prop
  lt : ∀ W k, holds W → ats k → k < W.heap.size
  keep : ∀ W W', holds W → (∀ k, ats k → W'.heap[k]? = W.heap[k]?) → holds W'
theorem lt_of_heap {W : World} {b : Nat} {o : Obj} (h : W.heap[b]? = some o) : b < W.heap.size := (Array.getElem?_eq_some_iff.1 h).1
/-- A block whose cells are known. -/
def It.box (b : Nat) (cs : Array Value) (t : TypeId) : It where
  ats k := k = b
  holds W := W.heap[b]? = some (.cells cs t (0, 0))
  lt := fun _ _ h hk => by rw [hk]; exact lt_of_heap h
  keep := fun _ _ h hk => (hk b rfl).trans h
/-- Bytes of one's own: nil, or a row. -/
def It.mine (e : TypeId) (ao : Option Addr) (cap : Nat) (l : List (BitVec 8)) : It where
  ats k := ∃ a, ao = some a ∧ a.block = k
  holds W := Mine W 0 e ao cap l
  lt := by
    rintro W k h ⟨a, rfl, rfl⟩
    exact Mine.lt h a rfl
  keep := by
    rintro W W' (h | ⟨g, rfl, hg, ho⟩) hk
    · exact Or.inl h
    · exact Or.inr ⟨g, rfl, hg, ho.kept (hk g ⟨_, rfl, rfl⟩)⟩
/-- A list of one's own, of any elements: nil, or a row. -/
def It.lst (e size : Nat) (v : Value) (n : Nat) (xs : List Value) : It where
  ats k := ∃ n' cap, v = .slice (some ⟨k, 0, none⟩) n' cap
  holds W := W.ownsRow 0 e size v n xs
  lt := by
    rintro W k ⟨_, h⟩ ⟨n', cap, rfl⟩
    rcases h with ⟨h, _⟩ | ⟨g, cap', cur, h, _, hh, _⟩
    · cases h
    · cases h; exact lt_of_heap hh
  keep := by
    rintro W W' ⟨h1, h⟩ hk
    refine ⟨h1, ?_⟩
    rcases h with h | ⟨g, cap, cur, rfl, hg, hh, h2⟩
    · exact Or.inl h
    · exact Or.inr ⟨g, cap, cur, rfl, hg, (hk g ⟨_, _, rfl⟩).trans hh, h2⟩
def It.off (x y : It) : Prop := ∀ k, x.ats k → ¬ y.ats k
theorem It.off_symm {x y : It} (h : x.off y) : y.off x := fun k hy hx => h k hx hy
structure Bag (w W : World) (l : List It) : Prop where
  below : Below w.heap.size w W
  holds : ∀ (i : Nat) (x : It), l[i]? = some x → x.holds W
  new : ∀ (i : Nat) (x : It) (k : Nat), l[i]? = some x → x.ats k → w.heap.size ≤ k
  off : ∀ (i j : Nat) (x y : It), l[i]? = some x → l[j]? = some y → i ≠ j → x.off y
namespace Bag
variable {w W W' : World} {l : List It}
theorem start (w : World) : Bag w w [] := ⟨Below.refl _ _, by simp, by simp, by simp⟩
theorem size (h : Bag w W l) : w.heap.size ≤ W.heap.size := h.below.size
theorem lt (h : Bag w W l) {x : It} (i : Nat) (hx : l[i]? = some x) (k : Nat) (hk : x.ats k) : k < W.heap.size := x.lt W k (h.holds i x hx) hk
theorem call (h : Bag w W l) (hb : Below W.heap.size W W') : Bag w W' l :=
  ⟨h.below.trans (hb.mono h.size), fun i x hx => x.keep W W' (h.holds i x hx) fun k hk => hb.block k (h.lt i hx k hk), h.new, h.off⟩
theorem drew (h : Bag w W l) : Bag w W.drew l := h.call (Below.refl _ W).drew
theorem still (h : Bag w W l) (hs : Still W W') : Bag w W' l := h.call (hs.below _)
theorem drewN (h : Bag w W l) (n : Nat) : Bag w (W.drewN n) l := h.still ⟨n, rfl⟩
theorem cons (h : Bag w W l) (hb : Below W.heap.size W W') {x : It} (hx : x.holds W') (hn : ∀ k, x.ats k → W.heap.size ≤ k) : Bag w W' (x :: l) := by
  have h' := h.call hb
  have hlt : ∀ (i : Nat) (y : It), l[i]? = some y → ∀ k, y.ats k → k < W.heap.size := fun i y hy k hk => h.lt i hy k hk
  refine ⟨h'.below, ?_, ?_, ?_⟩
  · rintro (_ | i) y hy
    · simp at hy; subst hy; exact hx
    · exact h'.holds i y (by simpa using hy)
  · rintro (_ | i) y k hy hk
    · simp at hy; subst hy; exact Nat.le_trans h.size (hn k hk)
    · exact h'.new i y k (by simpa using hy) hk
  · rintro (_ | i) (_ | j) y z hy hz hij k hk1 hk2
    · exact hij rfl
    · simp at hy; subst hy
      have := hn k hk1
      have := hlt j z (by simpa using hz) k hk2
      omega
    · simp at hz; subst hz
      have := hn k hk2
      have := hlt i y (by simpa using hy) k hk1
      omega
    · exact h'.off i j y z (by simpa using hy) (by simpa using hz) (by omega) k hk1 hk2
theorem alloc (h : Bag w W l) (cs : Array Value) (t : TypeId) : Bag w (W.alloc (.cells cs t (0, 0))) (.box W.heap.size cs t :: l) :=
  h.cons ((Below.refl _ W).alloc (Nat.le_refl _) _) (heap_alloc_new W _) (fun _ hk => Nat.le_of_eq hk.symm)
theorem allocAt (h : Bag w W l) (cs : Array Value) (t : TypeId) (b : Nat) (hb : W.heap.size = b) : Bag w (W.alloc (.cells cs t (0, 0))) (.box b cs t :: l) := by
  subst hb
  exact h.alloc cs t
theorem mine (h : Bag w W l) (hb : Below W.heap.size W W') {e : TypeId} {ao : Option Addr} {cap : Nat} {m : List (BitVec 8)} (hm : Mine W' W.heap.size e ao cap m) : Bag w W' (.mine e ao cap m :: l) :=
  h.cons hb (hm.from (Nat.zero_le _)) fun k hk0 => by obtain ⟨a, ha, hk⟩ := hk0; have := hm.at a ha; omega
theorem own (h : Bag w W l) (hb : Below W.heap.size W W') {e : TypeId} {g cap : Nat} {m : List (BitVec 8)} (hm : Own W' g cap e m) (hg : W.heap.size ≤ g) : Bag w W' (.mine e (some ⟨g, 0, none⟩) cap m :: l) :=
  h.mine hb (Or.inr ⟨g, rfl, hg, hm⟩)
theorem owns (h : Bag w W l) (hb : Below W.heap.size W W') {e size n : Nat} {v : Value} {xs : List Value} (hm : W'.ownsRow W.heap.size e size v n xs) : Bag w W' (.lst e size v n xs :: l) := by
  refine h.cons hb ?_ ?_
  · obtain ⟨h1, h2⟩ := hm
    refine ⟨h1, ?_⟩
    rcases h2 with h2 | ⟨g, cap, cur, rfl, hg, h3⟩
    · exact Or.inl h2
    · exact Or.inr ⟨g, cap, cur, rfl, Nat.zero_le _, h3⟩
  · rintro k ⟨n', cap, rfl⟩
    obtain ⟨_, h2⟩ := hm
    rcases h2 with ⟨h2, _⟩ | ⟨g, cap', cur, h2, hg, _⟩
    · cases h2
    · cases h2; exact hg
/-- One thing turns, the others stay. -/
theorem turn (h : Bag w W l) (i : Nat) {x : It} (hx : l[i]? = some x) {S : Nat → Prop} (ho : Only S W W') (hS : ∀ k, S k → x.ats k) {y : It} (hy : y.holds W') (hk : ∀ k, y.ats k → x.ats k ∨ W.heap.size ≤ k) : Bag w W' (l.set i y) := by
  have hil : i < l.length := (List.getElem?_eq_some_iff.1 hx).1
  have get : ∀ (j : Nat) (z : It), (l.set i y)[j]? = some z → (j = i ∧ z = y) ∨ (j ≠ i ∧ l[j]? = some z) := by
    intro j z hz
    rw [List.getElem?_set] at hz
    by_cases hj : i = j
    · subst hj
      rw [if_pos rfl, if_pos hil] at hz
      exact Or.inl ⟨rfl, by cases hz; rfl⟩
    · rw [if_neg hj] at hz
      exact Or.inr ⟨fun h => hj h.symm, hz⟩
  refine ⟨h.below.trans (ho.below (fun k hk => h.new i x k hx (hS k hk)) h.size), ?_, ?_, ?_⟩
  · intro j z hz
    rcases get j z hz with ⟨rfl, rfl⟩ | ⟨hj, hz⟩
    · exact hy
    · exact z.keep W W' (h.holds j z hz) fun k hk => ho.block k (h.lt j hz k hk) fun hs => h.off j i z x hz hx hj k hk (hS k hs)
  · intro j z k hz hzk
    rcases get j z hz with ⟨rfl, rfl⟩ | ⟨hj, hz⟩
    · rcases hk k hzk with hx' | hx'
      · exact h.new _ x k hx hx'
      · exact Nat.le_trans h.size hx'
    · exact h.new j z k hz hzk
  · intro j j' z z' hz hz' hjj k hk1 hk2
    rcases get j z hz with ⟨rfl, rfl⟩ | ⟨hj, hy1⟩ <;> rcases get j' z' hz' with ⟨rfl, rfl⟩ | ⟨hj', hy2⟩
    · exact hjj rfl
    · rcases hk k hk1 with hx' | hx'
      · exact h.off _ j' x z' hx hy2 (fun e => hj' e.symm) k hx' hk2
      · have := h.lt j' hy2 k hk2; omega
    · rcases hk k hk2 with hx' | hx'
      · exact h.off j _ z x hy1 hx hj k hk1 hx'
      · have := h.lt j hy1 k hk1; omega
    · exact h.off j j' z z' hy1 hy2 hjj k hk1 hk2
theorem box (h : Bag w W l) (i : Nat) {b : Nat} {cs : Array Value} {t : TypeId} (hi : l[i]? = some (.box b cs t)) : W.heap[b]? = some (.cells cs t (0, 0)) := h.holds i _ hi
theorem boxLt (h : Bag w W l) (i : Nat) {b : Nat} {cs : Array Value} {t : TypeId} (hi : l[i]? = some (.box b cs t)) : b < W.heap.size := h.lt i hi b rfl
theorem boxNew (h : Bag w W l) (i : Nat) {b : Nat} {cs : Array Value} {t : TypeId} (hi : l[i]? = some (.box b cs t)) : w.heap.size ≤ b := h.new i _ b hi rfl
theorem boxNe (h : Bag w W l) (i j : Nat) {b c : Nat} {cs ds : Array Value} {t u : TypeId} (hi : l[i]? = some (.box b cs t)) (hj : l[j]? = some (.box c ds u)) (hij : i ≠ j) : b ≠ c := fun e => h.off i j _ _ hi hj hij b rfl e
theorem mineRd (h : Bag w W l) (i : Nat) {e : TypeId} {ao : Option Addr} {cap : Nat} {m : List (BitVec 8)} (hi : l[i]? = some (.mine e ao cap m)) : Rd W ao m := Mine.rd (h.holds i _ hi)
theorem mineLe (h : Bag w W l) (i : Nat) {e : TypeId} {ao : Option Addr} {cap : Nat} {m : List (BitVec 8)} (hi : l[i]? = some (.mine e ao cap m)) : m.length ≤ cap := Mine.le (h.holds i _ hi)
theorem mineFar (h : Bag w W l) (i : Nat) {e : TypeId} {ao : Option Addr} {cap : Nat} {m : List (BitVec 8)} (hi : l[i]? = some (.mine e ao cap m)) : ∀ a, ao = some a → w.heap.size ≤ a.block ∧ a.block < W.heap.size := fun a ha => ⟨h.new i _ _ hi ⟨a, ha, rfl⟩, h.lt i hi _ ⟨a, ha, rfl⟩⟩
theorem mineNe (h : Bag w W l) (i j : Nat) {e : TypeId} {ao : Option Addr} {cap b : Nat} {m : List (BitVec 8)} {cs : Array Value} {t : TypeId} (hi : l[i]? = some (.mine e ao cap m)) (hj : l[j]? = some (.box b cs t)) (hij : i ≠ j) : ∀ a, ao = some a → a.block ≠ b := fun a ha e => h.off i j _ _ hi hj hij _ ⟨a, ha, rfl⟩ e
theorem mineOwn (h : Bag w W l) (i : Nat) {e : TypeId} {g cap : Nat} {m : List (BitVec 8)} (hi : l[i]? = some (.mine e (some ⟨g, 0, none⟩) cap m)) : Own W g cap e m := by
  rcases h.holds i _ hi with ⟨_, h, _⟩ | ⟨g', h, _, ho⟩
  · cases h
  · cases h; exact ho
theorem mineMine (h : Bag w W l) (i : Nat) {e : TypeId} {ao : Option Addr} {cap : Nat} {m : List (BitVec 8)} (hi : l[i]? = some (.mine e ao cap m)) : Mine W w.heap.size e ao cap m := by
  rcases h.holds i _ hi with h1 | ⟨g, rfl, _, ho⟩
  · exact Or.inl h1
  · exact Or.inr ⟨g, rfl, h.new i _ g hi ⟨_, rfl, rfl⟩, ho⟩
/-- Some things are let go: l' is what is kept, each once. -/
theorem sub (h : Bag w W l) {l' : List It} (f : Nat → Nat) (hf : ∀ (i : Nat) (x : It), l'[i]? = some x → l[f i]? = some x) (hinj : ∀ i j : Nat, i < l'.length → j < l'.length → f i = f j → i = j) : Bag w W l' := by
  refine ⟨h.below, fun i x hx => h.holds _ x (hf i x hx), fun i x k hx hk => h.new _ x k (hf i x hx) hk, fun i j x y hx hy hij => h.off _ _ x y (hf i x hx) (hf j y hy) fun e => hij (hinj i j ?_ ?_ e)⟩
  · exact (List.getElem?_eq_some_iff.1 hx).1
  · exact (List.getElem?_eq_some_iff.1 hy).1
theorem erase (h : Bag w W l) (i : Nat) : Bag w W (l.eraseIdx i) := by
  refine h.sub (fun j => if j < i then j else j + 1) ?_ ?_
  · intro j x hx
    rw [List.getElem?_eraseIdx] at hx
    by_cases hj : j < i
    · rw [if_pos hj] at hx ⊢; exact hx
    · rw [if_neg hj] at hx ⊢; exact hx
  · intro a b _ _ hab
    split at hab <;> split at hab <;> omega
/-- A store into one cell. -/
theorem put (h : Bag w W l) (i : Nat) {b : Nat} {cs : Array Value} {t : TypeId} (hi : l[i]? = some (.box b cs t)) (j : Nat) (v : Value) : Bag w (W.setCell ⟨b, j, none⟩ v) (l.set i (.box b (cs.setIfInBounds j v) t)) :=
  h.turn i hi (Only.setCell W b j v) (fun _ h => h) (heap_setCell_same W b j cs t v (h.box i hi)) (fun _ h => Or.inl h)
def setAll (W : World) (b : Nat) : Nat → List Value → World
  | _, [] => W
  | i, v :: r => setAll (W.setCell ⟨b, i, none⟩ v) b (i + 1) r
theorem setAll_only (b : Nat) (vs : List Value) : ∀ (i : Nat) (W : World), Only (fun k => k = b) W (setAll W b i vs) := by
  induction vs with
  | nil => intro i W; exact Only.refl _ _
  | cons v r ih => intro i W; exact (Only.setCell W b i v).trans (ih (i + 1) _)
theorem setAll_heap (b : Nat) (t : TypeId) (vs : List Value) : ∀ (pre post : List Value) (W : World), W.heap[b]? = some (.cells ⟨pre ++ post⟩ t (0, 0)) → post.length = vs.length → (setAll W b pre.length vs).heap[b]? = some (.cells ⟨pre ++ vs⟩ t (0, 0)) := by
  induction vs with
  | nil =>
    intro pre post W h hl
    obtain rfl : post = [] := List.length_eq_zero_iff.1 hl
    exact h
  | cons v r ih =>
    intro pre post W h hl
    match post, hl with
    | p :: ps, hl =>
      have h1 := heap_setCell_same W b pre.length _ t v h
      have e : (Array.mk (pre ++ p :: ps)).setIfInBounds pre.length v = ⟨(pre ++ [v]) ++ ps⟩ := by
        apply Array.ext'
        simp
      rw [e] at h1
      have h2 := ih (pre ++ [v]) ps _ h1 (by simpa using hl)
      simpa [setAll] using h2
/-- A store over all cells. -/
theorem store (h : Bag w W l) (i : Nat) {b : Nat} {cs : Array Value} {t : TypeId} (hi : l[i]? = some (.box b cs t)) (vs : List Value) (hn : cs.size = vs.length) : Bag w (setAll W b 0 vs) (l.set i (.box b vs.toArray t)) := by
  obtain ⟨c⟩ := cs
  exact h.turn i hi (setAll_only b vs 0 W) (fun _ h => h) (setAll_heap b t vs [] c W (h.box i hi) (by simpa using hn)) (fun _ h => Or.inl h)
/-- A byte written in a row of one's own. -/
theorem byte (h : Bag w W l) (i : Nat) {e : TypeId} {g cap : Nat} {m : List (BitVec 8)} (hi : l[i]? = some (.mine e (some ⟨g, 0, none⟩) cap m)) (j : Nat) (x : BitVec 8) : Bag w (W.setCell ⟨g, j, none⟩ (.int .u8 (n8 x))) (l.set i (.mine e (some ⟨g, 0, none⟩) cap (m.set j x))) :=
  h.turn i hi (Only.setCell W g j _) (fun _ h => ⟨_, rfl, h.symm⟩) (Or.inr ⟨g, rfl, Nat.zero_le _, (h.mineOwn i hi).set j x⟩) (fun _ h => Or.inl h)
end Bag
theorem cells1 {W : World} {b : Nat} {t : TypeId} {v0 : Value} (h : W.heap[b]? = some (.cells #[v0] t (0, 0))) : W.cell? ⟨b, 0, none⟩ = some v0 ∧ ∀ i, W.frozen? ⟨b, i, none⟩ = false :=
  ⟨cell_of_row W b 0 _ _ _ h, fun i => frozen_of_row W b i _ _ h⟩
theorem cells2 {W : World} {b : Nat} {t : TypeId} {v0 v1 : Value} (h : W.heap[b]? = some (.cells #[v0, v1] t (0, 0))) : W.cell? ⟨b, 0, none⟩ = some v0 ∧ W.cell? ⟨b, 1, none⟩ = some v1 ∧ ∀ i, W.frozen? ⟨b, i, none⟩ = false :=
  ⟨cell_of_row W b 0 _ _ _ h, cell_of_row W b 1 _ _ _ h, fun i => frozen_of_row W b i _ _ h⟩
theorem cells3 {W : World} {b : Nat} {t : TypeId} {v0 v1 v2 : Value} (h : W.heap[b]? = some (.cells #[v0, v1, v2] t (0, 0))) : W.cell? ⟨b, 0, none⟩ = some v0 ∧ W.cell? ⟨b, 1, none⟩ = some v1 ∧ W.cell? ⟨b, 2, none⟩ = some v2 ∧ ∀ i, W.frozen? ⟨b, i, none⟩ = false :=
  ⟨cell_of_row W b 0 _ _ _ h, cell_of_row W b 1 _ _ _ h, cell_of_row W b 2 _ _ _ h, fun i => frozen_of_row W b i _ _ h⟩
theorem cells4 {W : World} {b : Nat} {t : TypeId} {v0 v1 v2 v3 : Value} (h : W.heap[b]? = some (.cells #[v0, v1, v2, v3] t (0, 0))) : W.cell? ⟨b, 0, none⟩ = some v0 ∧ W.cell? ⟨b, 1, none⟩ = some v1 ∧ W.cell? ⟨b, 2, none⟩ = some v2 ∧ W.cell? ⟨b, 3, none⟩ = some v3 ∧ ∀ i, W.frozen? ⟨b, i, none⟩ = false :=
  ⟨cell_of_row W b 0 _ _ _ h, cell_of_row W b 1 _ _ _ h, cell_of_row W b 2 _ _ _ h, cell_of_row W b 3 _ _ _ h, fun i => frozen_of_row W b i _ _ h⟩
theorem cells5 {W : World} {b : Nat} {t : TypeId} {v0 v1 v2 v3 v4 : Value} (h : W.heap[b]? = some (.cells #[v0, v1, v2, v3, v4] t (0, 0))) : W.cell? ⟨b, 0, none⟩ = some v0 ∧ W.cell? ⟨b, 1, none⟩ = some v1 ∧ W.cell? ⟨b, 2, none⟩ = some v2 ∧ W.cell? ⟨b, 3, none⟩ = some v3 ∧ W.cell? ⟨b, 4, none⟩ = some v4 ∧ ∀ i, W.frozen? ⟨b, i, none⟩ = false :=
  ⟨cell_of_row W b 0 _ _ _ h, cell_of_row W b 1 _ _ _ h, cell_of_row W b 2 _ _ _ h, cell_of_row W b 3 _ _ _ h, cell_of_row W b 4 _ _ _ h, fun i => frozen_of_row W b i _ _ h⟩
theorem cells6 {W : World} {b : Nat} {t : TypeId} {v0 v1 v2 v3 v4 v5 : Value} (h : W.heap[b]? = some (.cells #[v0, v1, v2, v3, v4, v5] t (0, 0))) : W.cell? ⟨b, 0, none⟩ = some v0 ∧ W.cell? ⟨b, 1, none⟩ = some v1 ∧ W.cell? ⟨b, 2, none⟩ = some v2 ∧ W.cell? ⟨b, 3, none⟩ = some v3 ∧ W.cell? ⟨b, 4, none⟩ = some v4 ∧ W.cell? ⟨b, 5, none⟩ = some v5 ∧ ∀ i, W.frozen? ⟨b, i, none⟩ = false :=
  ⟨cell_of_row W b 0 _ _ _ h, cell_of_row W b 1 _ _ _ h, cell_of_row W b 2 _ _ _ h, cell_of_row W b 3 _ _ _ h, cell_of_row W b 4 _ _ _ h, cell_of_row W b 5 _ _ _ h, fun i => frozen_of_row W b i _ _ h⟩
theorem cells7 {W : World} {b : Nat} {t : TypeId} {v0 v1 v2 v3 v4 v5 v6 : Value} (h : W.heap[b]? = some (.cells #[v0, v1, v2, v3, v4, v5, v6] t (0, 0))) : W.cell? ⟨b, 0, none⟩ = some v0 ∧ W.cell? ⟨b, 1, none⟩ = some v1 ∧ W.cell? ⟨b, 2, none⟩ = some v2 ∧ W.cell? ⟨b, 3, none⟩ = some v3 ∧ W.cell? ⟨b, 4, none⟩ = some v4 ∧ W.cell? ⟨b, 5, none⟩ = some v5 ∧ W.cell? ⟨b, 6, none⟩ = some v6 ∧ ∀ i, W.frozen? ⟨b, i, none⟩ = false :=
  ⟨cell_of_row W b 0 _ _ _ h, cell_of_row W b 1 _ _ _ h, cell_of_row W b 2 _ _ _ h, cell_of_row W b 3 _ _ _ h, cell_of_row W b 4 _ _ _ h, cell_of_row W b 5 _ _ _ h, cell_of_row W b 6 _ _ _ h, fun i => frozen_of_row W b i _ _ h⟩
theorem cells8 {W : World} {b : Nat} {t : TypeId} {v0 v1 v2 v3 v4 v5 v6 v7 : Value} (h : W.heap[b]? = some (.cells #[v0, v1, v2, v3, v4, v5, v6, v7] t (0, 0))) : W.cell? ⟨b, 0, none⟩ = some v0 ∧ W.cell? ⟨b, 1, none⟩ = some v1 ∧ W.cell? ⟨b, 2, none⟩ = some v2 ∧ W.cell? ⟨b, 3, none⟩ = some v3 ∧ W.cell? ⟨b, 4, none⟩ = some v4 ∧ W.cell? ⟨b, 5, none⟩ = some v5 ∧ W.cell? ⟨b, 6, none⟩ = some v6 ∧ W.cell? ⟨b, 7, none⟩ = some v7 ∧ ∀ i, W.frozen? ⟨b, i, none⟩ = false :=
  ⟨cell_of_row W b 0 _ _ _ h, cell_of_row W b 1 _ _ _ h, cell_of_row W b 2 _ _ _ h, cell_of_row W b 3 _ _ _ h, cell_of_row W b 4 _ _ _ h, cell_of_row W b 5 _ _ _ h, cell_of_row W b 6 _ _ _ h, cell_of_row W b 7 _ _ _ h, fun i => frozen_of_row W b i _ _ h⟩
end Go.Proofs.YthaiibfnjgfgjaaDoor
