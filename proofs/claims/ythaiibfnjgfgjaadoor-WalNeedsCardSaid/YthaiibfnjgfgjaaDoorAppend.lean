/- append of bytes onto a row of one's own, whatever the bytes are (none, nil, an argument's). No program in sight. -/
import Derived.Test.YthaiibfnjgfgjaaDoorBv
import Derived.Laws.AppendOwnNone
import Derived.Deep.AppendLies
import Derived.Deep.RegionLaw
namespace Go.Proofs.YthaiibfnjgfgjaaDoor
open Go.RowKit
theorem wpList_append_bytes {P : Program} {w w0 : World} {ops : Array Oper} {rest : List Oper} {o : Oper} {a : Act} {Q : Exit → Act → World → Prop} (hgd : o.guard = none) (s x : Operand) (t : TypeId)
    (ho : o.op = .call { callee := .builtin .append, args := #[s, x], argTypes := #[t, t] })
    (base e : Nat) (i : TypeInfo) (ht : P.underlying t = some (.slice e)) (hi : P.info? e = some i) (hz : i.zero = some (.int .u8 0)) (hsize : i.size = 1) (hby : i.bytes = 1)
    (v : Value) (n : Nat) (l0 : List (BitVec 8)) (hs : a.eval s = v) (hown : w.ownsRow base e 1 v n (bts l0)) (ao : Option Addr) (m c : Nat) (l : List (BitVec 8)) (hx : a.eval x = .slice ao m c)
    (hm : l.length = m) (hr : Rd w ao l) (hn : ao = none → c = 0) (hbytes : n + m ≤ 140737488355328) (B : Nat) (hb : Below B w0 w) (hB : B ≤ base) (hbase : base ≤ w.heap.size)
    (h : ∀ v' w', w'.ownsRow base e 1 v' (n + m) (bts (l0 ++ l)) → Below B w0 w' → wpList P ops Q rest (a.put o.dst v') w') : wpList P ops Q (o :: rest) a w := by
  cases ao with
  | none =>
    have hl : l = [] := by
      rcases hr with h1 | ⟨b, o, h1, _⟩
      · exact h1
      · cases h1
    subst hl
    obtain rfl : m = 0 := by simpa using hm.symm
    obtain rfl := hn rfl
    refine wpList_append_own_none hgd s x t ho base e i 1 ht hi v n (bts l0) hs hown hx ?_
    exact h v w (by simpa using hown) hb
  | some ad =>
    refine wpList_append_own w hgd s x t ho base e i (.int .u8 0) 1 1 ht hi hz hsize hby rfl (by decide) v n (bts l0) hs hown ad m c (bts l) hx (by rw [bts_length, hm, Nat.mul_one]) ?_ ?_ (by unfold maxLen; omega) (by omega) hbase ?_
    · intro j u hj
      have hjl : j < l.length := by
        have := (List.getElem?_eq_some_iff.1 hj).1
        rwa [bts_length] at this
      rcases hr with rfl | ⟨b, o, h1, hc⟩
      · simp at hjl
      · cases h1
        rw [bts_get l j hjl] at hj
        rw [Addr.add_lit, hc j hjl]
        exact hj
    · intro u hu
      simp only [bts, List.mem_map] at hu
      obtain ⟨_, _, rfl⟩ := hu
      rfl
    · intro v' w' h1 h2 _
      rw [← bts_append] at h1
      exact h v' w' h1 (hb.grown h2 (by omega) (fun k hk => Nat.le_trans hB (hown.lt k hk).1))
/-- The same at a step of a region that draws its order. -/
theorem step_append_bytes {P : Program} {w w0 : World} {ops : Array Oper} {o : Oper} {a : Act} {K : Act → World → Prop} {Q : Exit → Act → World → Prop} {E : Prop} (hgd : o.guard = none) (s x : Operand) (t : TypeId)
    (ho : o.op = .call { callee := .builtin .append, args := #[s, x], argTypes := #[t, t] })
    (base e : Nat) (i : TypeInfo) (ht : P.underlying t = some (.slice e)) (hi : P.info? e = some i) (hz : i.zero = some (.int .u8 0)) (hsize : i.size = 1) (hby : i.bytes = 1)
    (v : Value) (n : Nat) (l0 : List (BitVec 8)) (hs : a.eval s = v) (hown : w.ownsRow base e 1 v n (bts l0)) (ad : Addr) (m c : Nat) (l : List (BitVec 8)) (hx : a.eval x = .slice (some ad) m c)
    (hm : l.length = m) (hr : Rd w (some ad) l) (hm0 : 0 < m) (hbytes : n + m ≤ 140737488355328) (B : Nat) (hb : Below B w0 w) (hB : B ≤ base) (hbase : base ≤ w.heap.size)
    (h : ∀ g cap w', w'.ownsRow base e 1 (.slice (some ⟨g, 0, none⟩) (n + m) cap) (n + m) (bts (l0 ++ l)) → Below B w0 w' → w.heap.size ≤ w'.heap.size → K (a.put o.dst (.slice (some ⟨g, 0, none⟩) (n + m) cap)) w') :
    if Region.wanted o (yielded ops a.tmps) = true then Oper.wp P o a w K Q else E := by
  refine step_append_lies w hgd s x t ho base e i (.int .u8 0) 1 1 ht hi hz hsize hby rfl (by decide) v n (bts l0) hs hown ad m c (bts l) hx (by rw [bts_length, hm, Nat.mul_one]) ?_ ?_ hm0 (by unfold maxLen; omega) (by omega) hbase _ rfl ?_
  · intro j u hj
    have hjl : j < l.length := by
      have := (List.getElem?_eq_some_iff.1 hj).1
      rwa [bts_length] at this
    rcases hr with rfl | ⟨b, o, h1, hc⟩
    · simp at hjl
    · cases h1
      rw [bts_get l j hjl] at hj
      rw [Addr.add_lit, hc j hjl]
      exact hj
  · intro u hu
    simp only [bts, List.mem_map] at hu
    obtain ⟨_, _, rfl⟩ := hu
    rfl
  · intro g cap w' h1 h2 _ _
    rw [← bts_append] at h1
    exact h g cap w' h1 (hb.grown h2 (by omega) (fun k hk => Nat.le_trans hB (hown.lt k hk).1)) h2.size
end Go.Proofs.YthaiibfnjgfgjaaDoor
