/- copy into the middle of a row of one's own; make of zeros; rows in a bag. No program in sight. -/
import Derived.Test.YthaiibfnjgfgjaaDoorAppend
import Derived.Test.YthaiibfnjgfgjaaDoorBagKey
namespace Go.Proofs.YthaiibfnjgfgjaaDoor
open Go.RowKit
theorem own_splice {w : World} {g cap : Nat} {t : TypeId} {L : List (BitVec 8)} {cur : Array Value} (h1 : w.heap[g]? = some (.cells cur t (0, 0))) (h2 : cur.size = cap) (h3 : L.length ≤ cap) (h4 : cur.toList.take L.length = bts L) (off : Nat) (l : List (BitVec 8)) (hl : off + l.length ≤ L.length) :
    Own (w.setRow g (cur.toList.take off ++ (bts l ++ cur.toList.drop (off + (bts l).length))).toArray) g cap t (splice L off l) := by
  refine ⟨_, setRow_heap w g _ _ t _ h1, ?_, ?_, ?_⟩
  · have e0 : (bts l).length = l.length := bts_length l
    simp; omega
  · rw [length_splice _ _ _ hl]; exact h3
  · rw [length_splice _ _ _ hl]
    have e0 : (bts l).length = l.length := bts_length l
    have e1 : cur.toList.take off = bts (L.take off) := by
      have : (cur.toList.take L.length).take off = (bts L).take off := by rw [h4]
      rw [List.take_take, Nat.min_eq_left (by omega)] at this
      rw [this]; simp [bts, List.map_take]
    have e2 : (cur.toList.drop (off + l.length)).take (L.length - (off + l.length)) = bts (L.drop (off + l.length)) := by
      have : (cur.toList.take L.length).drop (off + l.length) = (bts L).drop (off + l.length) := by rw [h4]
      rw [List.drop_take] at this
      rw [this]; simp [bts, List.map_drop]
    have e3 : (cur.toList.take off).length = off := by simp; omega
    rw [show L.length = off + (l.length + (L.length - (off + l.length))) by omega]
    rw [← e0] at e2 ⊢
    rw [List.take_append, e3, List.take_of_length_le (l := cur.toList.take off) (by omega)]
    rw [show off + ((bts l).length + (L.length - (off + (bts l).length))) - off = (bts l).length + (L.length - (off + (bts l).length)) by omega]
    rw [List.take_append, List.take_of_length_le (l := bts l) (by omega)]
    rw [show (bts l).length + (L.length - (off + (bts l).length)) - (bts l).length = L.length - (off + (bts l).length) by omega]
    rw [e1, e2, e0]
    simp [splice, bts]
theorem cpRun {P : Program} {w : World} (dT sT ty e : TypeId) (i : TypeInfo) (hu : P.underlying dT = some (.slice e)) (hi : P.info? e = some i) (hsize : i.size = 1)
    (g off n dCap : Nat) (dp sp : Option Addr) (m sCap : Nat) (cap : Nat) (t : TypeId) (L l : List (BitVec 8)) (hO : Own w g cap t L) (hd : 0 < l.length → dp = some ⟨g, off, none⟩) (hr : Rd w sp l) (hl : l.length = m) (hmn : m ≤ n) (hf : off + m ≤ L.length) :
    ∃ w', (Builtin.copy_ #[dT, sT] ty #[.slice dp n dCap, .slice sp m sCap]).run P w = .ok (goInt m) w' ∧ Own w' g cap t (splice L off l) ∧ w'.heap.size = w.heap.size ∧ Only (fun k => k = g) w w' := by
  subst hl
  have hsz : (P.info? e).map (·.size) = some 1 := by rw [hi]; simp [hsize]
  by_cases h0 : l.length = 0
  · obtain rfl : l = [] := List.length_eq_zero_iff.1 h0
    have hrun := run_copy_none (P := P) w dT sT ty e dp sp n dCap 0 sCap hu hsz (by simp)
    exact ⟨w, hrun, by simpa [splice] using hO, rfl, Only.refl _ _⟩
  · obtain rfl := hd (by omega)
    have hr' := hr
    rcases hr with rfl | ⟨b, o, rfl, hc⟩
    · simp at h0
    · obtain ⟨cur, h1, h2, h3, h4⟩ := hO
      have hlen : (bts l).length = l.length := bts_length l
      have hrun := run_copy_row (P := P) w dT sT ty e g off n dCap ⟨b, o, none⟩ l.length sCap cur t (bts l) hu hsz h1 (by rw [hlen]; exact (Nat.min_eq_left hmn).symm) hr'.src (by rw [hlen]; omega) (bts_one l)
      rw [hlen] at hrun
      refine ⟨_, hrun, ?_, by simp [World.setRow], ⟨rfl, rfl, rfl, by simp [World.setRow], fun k _ hk => setRow_other w g k _ hk⟩⟩
      have := own_splice h1 h2 h3 h4 off l hf
      rw [hlen] at this
      simpa only [List.append_assoc] using this
theorem wpList_copy_at {P : Program} {w : World} {ops : Array Oper} {rest : List Oper} {o : Oper} {a : Act} {Q : Exit → Act → World → Prop} (hgd : o.guard = none) (d s : Operand) (dT sT : TypeId)
    (ho : o.op = .call { callee := .builtin .copy, args := #[d, s], argTypes := #[dT, sT] }) (e : TypeId) (i : TypeInfo) (hu : P.underlying dT = some (.slice e)) (hi : P.info? e = some i) (hsize : i.size = 1)
    (g off n dCap : Nat) (dp sp : Option Addr) (m sCap : Nat) (hd : a.eval d = .slice dp n dCap) (hs : a.eval s = .slice sp m sCap)
    (cap : Nat) (t : TypeId) (L l : List (BitVec 8)) (hO : Own w g cap t L) (hdp : 0 < l.length → dp = some ⟨g, off, none⟩) (hr : Rd w sp l) (hl : l.length = m) (hmn : m ≤ n) (hf : off + m ≤ L.length)
    (h : ∀ w', Own w' g cap t (splice L off l) → w'.heap.size = w.heap.size → Only (fun k => k = g) w w' → wpList P ops Q rest (a.put o.dst (goInt m)) w') : wpList P ops Q (o :: rest) a w := by
  refine wpList_plain hgd fun K hK => ?_
  obtain ⟨w', hrun, h1, h2, h3⟩ := cpRun (P := P) (w := w) dT sT o.type e i hu hi hsize g off n dCap dp sp m sCap cap t L l hO hdp hr hl hmn hf
  unfold Oper.wp
  simp [execOp, ho, resolve, invoke, builtin, hd, hs, hrun, Result.andThen]
  exact hK _ _ (h w' h1 h2 h3)
theorem step_copy_at {P : Program} {w : World} {ops : Array Oper} {o : Oper} {a : Act} {K : Act → World → Prop} {Q : Exit → Act → World → Prop} {E : Prop} (hgd : o.guard = none) (d s : Operand) (dT sT : TypeId)
    (ho : o.op = .call { callee := .builtin .copy, args := #[d, s], argTypes := #[dT, sT] }) (e : TypeId) (i : TypeInfo) (hu : P.underlying dT = some (.slice e)) (hi : P.info? e = some i) (hsize : i.size = 1)
    (g off n dCap : Nat) (dp sp : Option Addr) (m sCap : Nat) (hd : a.eval d = .slice dp n dCap) (hs : a.eval s = .slice sp m sCap)
    (cap : Nat) (t : TypeId) (L l : List (BitVec 8)) (hO : Own w g cap t L) (hdp : 0 < l.length → dp = some ⟨g, off, none⟩) (hr : Rd w sp l) (hl : l.length = m) (hmn : m ≤ n) (hf : off + m ≤ L.length)
    (h : ∀ w', Own w' g cap t (splice L off l) → w'.heap.size = w.heap.size → Only (fun k => k = g) w w' → K (a.put o.dst (goInt m)) w') :
    if Region.wanted o (yielded ops a.tmps) = true then Oper.wp P o a w K Q else E := by
  have hw : Region.wanted o (yielded ops a.tmps) = true := by simp [Region.wanted, hgd]
  rw [if_pos hw]
  obtain ⟨w', hrun, h1, h2, h3⟩ := cpRun (P := P) (w := w) dT sT o.type e i hu hi hsize g off n dCap dp sp m sCap cap t L l hO hdp hr hl hmn hf
  unfold Oper.wp
  simp [execOp, ho, resolve, invoke, builtin, hd, hs, hrun, Result.andThen]
  exact h w' h1 h2 h3
/-- make of bytes; the zeros by a name (else simp counts them out). -/
theorem wpList_make_zeros {P : Program} {w : World} {ops : Array Oper} {rest : List Oper} {o : Oper} {a : Act} {Q : Exit → Act → World → Prop}
    (hg : o.guard = none) (l c : Operand) (t : TypeId) (hop : o.op = Op.makeSlice t l c)
    (e : TypeId) (i : TypeInfo) (ht : P.underlying t = some (.slice e)) (hi : P.info? e = some i) (hz : i.zero = some (.int .u8 0)) (hsize : i.size = 1) (hby : i.bytes = 1)
    (kl kc : IntKind) (n : Nat) (hl : a.eval l = .int kl (n : Int)) (hc : a.eval c = .int kc (n : Int)) (hn : n ≤ 281474976710656) (Z : List (BitVec 8)) (hZ : List.replicate n 0#8 = Z)
    (hK : ∀ w', Own w' w.heap.size n e Z → Below w.heap.size w w' → wpList P ops Q rest (a.put o.dst (.slice (some ⟨w.heap.size, 0, none⟩) n n)) w') :
    wpList P ops Q (o :: rest) a w := by
  subst hZ
  exact wpList_make_bytes hg l c t hop e i ht hi hz hsize hby kl kc n hl hc hn fun w' h1 _ h3 => hK w' h1 h3.fresh
/-- A row of a bag turns. -/
theorem Bag.row {w W W' : World} {l : List It} (h : Bag w W l) (i : Nat) {e : TypeId} {g cap : Nat} {m m' : List (BitVec 8)} (hi : l[i]? = some (.mine e (some ⟨g, 0, none⟩) cap m)) (ho : Only (fun k => k = g) W W') (hO : Own W' g cap e m') : Bag w W' (l.set i (.mine e (some ⟨g, 0, none⟩) cap m')) :=
  h.turn i hi ho (fun _ h => ⟨_, rfl, h.symm⟩) (Or.inr ⟨g, rfl, Nat.zero_le _, hO⟩) (fun _ h => Or.inl h)
/-- A row that is made empty, with room. -/
theorem owns_room (w : World) (cs : Array Value) (e n : Nat) (hn : cs.size = n) (hm : n ≤ maxLen) : (w.alloc (.cells cs e)).ownsRow w.heap.size e 1 (.slice (some ⟨w.heap.size, 0, none⟩) 0 n) 0 (bts []) :=
  ⟨by simp [bts], Or.inr ⟨w.heap.size, n, cs, rfl, Nat.le_refl _, heap_alloc_new w _, Nat.zero_le _, hm, by omega, by simp [bts]⟩⟩
end Go.Proofs.YthaiibfnjgfgjaaDoor
