/- What a call leaves standing; make and copy of bytes. No program in sight. -/
import Derived.Test.YthaiibfnjgfgjaaDoorBv
import Derived.Test.YthaiibfnjgfgjaaDoorBv2
import Derived.Laws.CopyOwn
import Derived.Deep.OwnRows
import Derived.OwnWalk
namespace Go.Proofs.YthaiibfnjgfgjaaDoor
open Go.RowKit
/-- Of the old blocks only those of S may have turned. -/
structure Only (S : Nat → Prop) (w w' : World) : Prop where
  os : w'.os = w.os
  tape : w'.tape = w.tape
  output : w'.output = w.output
  size : w.heap.size ≤ w'.heap.size
  block : ∀ k, k < w.heap.size → ¬ S k → w'.heap[k]? = w.heap[k]?
theorem Only.refl (S : Nat → Prop) (w : World) : Only S w w := ⟨rfl, rfl, rfl, Nat.le_refl _, fun _ _ _ => rfl⟩
theorem Only.trans {S : Nat → Prop} {a b c : World} (h : Only S a b) (k : Only S b c) : Only S a c :=
  ⟨k.os.trans h.os, k.tape.trans h.tape, k.output.trans h.output, Nat.le_trans h.size k.size, fun i hi hs => (k.block i (Nat.lt_of_lt_of_le hi h.size) hs).trans (h.block i hi hs)⟩
theorem Only.mono {S T : Nat → Prop} {a b : World} (h : Only S a b) (hST : ∀ k, k < a.heap.size → S k → T k) : Only T a b :=
  ⟨h.os, h.tape, h.output, h.size, fun k hk hs => h.block k hk fun s => hs (hST k hk s)⟩
theorem Only.below {S : Nat → Prop} {w w' : World} {B : Nat} (h : Only S w w') (hS : ∀ k, S k → B ≤ k) (hB : B ≤ w.heap.size) : Below B w w' :=
  ⟨h.os, h.tape, h.output, h.size, fun k hk => h.block k (Nat.lt_of_lt_of_le hk hB) fun s => absurd (hS k s) (by omega)⟩
theorem Only.of_below {S : Nat → Prop} {w w' : World} (h : Below w.heap.size w w') : Only S w w' :=
  ⟨h.os, h.tape, h.output, h.size, fun k hk _ => h.block k hk⟩
theorem Only.fresh {w w' : World} (h : Only (fun _ => False) w w') : Below w.heap.size w w' := h.below (fun _ h => h.elim) (Nat.le_refl _)
/-- Then trans: first S, then what is new or in S. -/
theorem Only.then {S T : Nat → Prop} {a b c : World} (h : Only S a b) (k : Only T b c) (hT : ∀ i, i < a.heap.size → T i → S i) : Only S a c :=
  ⟨k.os.trans h.os, k.tape.trans h.tape, k.output.trans h.output, Nat.le_trans h.size k.size, fun i hi hs => (k.block i (Nat.lt_of_lt_of_le hi h.size) (fun t => hs (hT i hi t))).trans (h.block i hi hs)⟩
theorem Still.only {S : Nat → Prop} {w w' : World} (h : Still w w') : Only S w w' := .of_below (h.below _)
theorem Only.setCell (w : World) (g i : Nat) (v : Value) : Only (fun k => k = g) w (w.setCell ⟨g, i, none⟩ v) :=
  ⟨rfl, rfl, rfl, by simp [World.setCell], fun k _ hk => heap_setCell_other w _ k v hk⟩
theorem Only.alloc (S : Nat → Prop) (w : World) (o : Obj) : Only S w (w.alloc o) :=
  ⟨rfl, rfl, rfl, by show w.heap.size ≤ (w.heap.push o).size; simp, fun k hk _ => alloc_old w o k hk⟩
theorem Rd.only {S : Nat → Prop} {w w' : World} {ao : Option Addr} {l : List (BitVec 8)} (h : Rd w ao l) (hb : Only S w w') (ha : ∀ a, ao = some a → ¬ S a.block) : Rd w' ao l := by
  rcases h with rfl | ⟨b, o, rfl, hc⟩
  · exact Rd.nil _ _
  · refine Or.inr ⟨b, o, rfl, fun i hi => ?_⟩
    have h1 := hc i hi
    have h2 : w'.heap[b]? = w.heap[b]? := hb.block b (lt_of_rd h1) (ha _ rfl)
    rw [← h1]
    simp only [World.cell?, h2]
theorem Own.only {S : Nat → Prop} {w w' : World} {g cap : Nat} {e : TypeId} {l : List (BitVec 8)} (h : Own w g cap e l) (hb : Only S w w') (hg : ¬ S g) : Own w' g cap e l := h.kept (hb.block g h.lt hg)
theorem bts_one (l : List (BitVec 8)) : ∀ v ∈ bts l, v.oneCell' = true := by
  intro v hv
  simp only [bts, List.mem_map] at hv
  obtain ⟨_, _, rfl⟩ := hv
  rfl
theorem Rd.src {w : World} {ad : Addr} {l : List (BitVec 8)} (h : Rd w (some ad) l) : ∀ j v, (bts l)[j]? = some v → w.cell? (ad.add j) = some v := by
  intro j u hj
  have hjl : j < l.length := by
    have := (List.getElem?_eq_some_iff.1 hj).1
    rwa [bts_length] at this
  rcases h with rfl | ⟨b, o, h1, hc⟩
  · simp at hjl
  · cases h1
    rw [bts_get l j hjl] at hj
    rw [Addr.add_lit, hc j hjl]
    exact hj
theorem n8_zero : (0 : Int) = n8 0#8 := by unfold n8; rfl
theorem madeCells_u8 (n : Nat) : (madeCells #[Value.int .u8 0] n).toList = bts (List.replicate n 0#8) := by
  simp only [madeCells, bts, Array.toList_map, Array.toList_range, List.map_replicate]
  rw [← n8_zero]
  refine List.ext_getElem (by simp) fun i h1 h2 => ?_
  simp [Nat.mod_one]
theorem Own.made (w : World) (e : TypeId) (n : Nat) : Own (w.alloc (.cells (madeCells #[Value.int .u8 0] n) e)) w.heap.size n e (List.replicate n 0#8) := by
  refine ⟨_, heap_alloc_new w _, by simp [size_madeCells], by simp, ?_⟩
  rw [madeCells_u8]
  exact List.take_of_length_le (by simp [bts])
theorem wpList_make_bytes {P : Program} {w : World} {ops : Array Oper} {rest : List Oper} {o : Oper} {a : Act} {Q : Exit → Act → World → Prop}
    (hg : o.guard = none) (l c : Operand) (t : TypeId) (hop : o.op = Op.makeSlice t l c)
    (e : TypeId) (i : TypeInfo) (ht : P.underlying t = some (.slice e)) (hi : P.info? e = some i) (hz : i.zero = some (.int .u8 0)) (hsize : i.size = 1) (hby : i.bytes = 1)
    (kl kc : IntKind) (n : Nat) (hl : a.eval l = .int kl (n : Int)) (hc : a.eval c = .int kc (n : Int)) (hn : n ≤ 281474976710656)
    (hK : ∀ w', Own w' w.heap.size n e (List.replicate n 0#8) → w'.heap.size = w.heap.size + 1 → Only (fun _ => False) w w' → wpList P ops Q rest (a.put o.dst (.slice (some ⟨w.heap.size, 0, none⟩) n n)) w') :
    wpList P ops Q (o :: rest) a w :=
  wpList_make_row w hg l c t hop e i (.int .u8 0) ht hi hz hsize rfl kl kc n hl hc (by rw [hby]; omega) (by omega) (hK _ (Own.made w e n) (by show (w.heap.push _).size = _; simp) (Only.alloc _ _ _))
theorem wpList_copy_bytes {P : Program} {w : World} {ops : Array Oper} {rest : List Oper} {o : Oper} {a : Act} {Q : Exit → Act → World → Prop} (hgd : o.guard = none) (d s : Operand) (dT sT : TypeId)
    (ho : o.op = .call { callee := .builtin .copy, args := #[d, s], argTypes := #[dT, sT] }) (e : TypeId) (i : TypeInfo) (hu : P.underlying dT = some (.slice e)) (hi : P.info? e = some i) (hsize : i.size = 1)
    (g n dCap : Nat) (sp : Option Addr) (m sCap : Nat) (hd : a.eval d = .slice (some ⟨g, 0, none⟩) n dCap) (hs : a.eval s = .slice sp m sCap)
    (cap : Nat) (t : TypeId) (L l : List (BitVec 8)) (hO : Own w g cap t L) (hL : L.length = n) (hr : Rd w sp l) (hl : l.length = m) (hmn : m ≤ n)
    (h : ∀ w', Own w' g cap t (l ++ L.drop m) → w'.heap.size = w.heap.size → Only (fun k => k = g) w w' → wpList P ops Q rest (a.put o.dst (goInt m)) w') : wpList P ops Q (o :: rest) a w := by
  subst hl hL
  have hsz : (P.info? e).map (·.size) = some 1 := by rw [hi]; simp [hsize]
  by_cases h0 : l.length = 0
  · obtain rfl : l = [] := List.length_eq_zero_iff.1 h0
    exact wpList_copy_nothing hgd d s dT sT ho e hu hsz _ _ _ _ _ _ hd hs (by simp) (h w (by simpa using hO) rfl (Only.refl _ _))
  · have hr' := hr
    rcases hr with rfl | ⟨b, off, rfl, hc⟩
    · simp at h0
    · obtain ⟨cur, h1, h2, h3, h4⟩ := hO
      have hlen : (bts l).length = l.length := bts_length l
      have := wpList_copy_own (P := P) (w := w) (rest := rest) (Q := Q) (ops := ops) hgd d s dT sT ho e hu hsz g 0 L.length dCap ⟨b, off, none⟩ l.length sCap hd hs cur t h1 (bts l) (by rw [hlen]; exact (Nat.min_eq_left hmn).symm) hr'.src (by rw [hlen]; omega) (bts_one l)
      refine this ?_
      rw [hlen]
      refine h _ ?_ (by simp [World.setRow]) ?_
      · refine ⟨_, setRow_heap w g _ _ t _ h1, ?_, ?_, ?_⟩
        · simp [hlen]; omega
        · simp; omega
        · simp only [Nat.zero_add, List.take_zero, List.nil_append, List.length_append, List.length_drop]
          rw [bts_append, List.take_append, List.take_of_length_le (by rw [hlen]; omega)]
          congr 1
          rw [hlen, show l.length + (L.length - l.length) - l.length = L.length - l.length by omega]
          have e1 : bts (L.drop l.length) = (bts L).drop l.length := by simp [bts, List.map_drop]
          rw [e1, ← h4, List.drop_take]
      · exact ⟨rfl, rfl, rfl, by simp [World.setRow], fun k _ hk => setRow_other w g k _ hk⟩
end Go.Proofs.YthaiibfnjgfgjaaDoor
