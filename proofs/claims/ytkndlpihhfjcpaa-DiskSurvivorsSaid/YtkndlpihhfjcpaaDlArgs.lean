/- What the laws of chapter 10 are handed: calls in a list; how a law begins. -/
import Derived.Test.YtkndlpihhfjcpaaDlFol
import Derived.Test.YtkndlpihhfjcpaaDlFirst
import Derived.Laws.Tables
namespace Go.Proofs.Ytkndlpihhfjcpaa
open Go.RowKit
/-- A call as it is handed in: its fields, where its lists lie. -/
structure OpA where
  kind : Int
  i : Int
  sec : Bool
  data : List (BitVec 8)
  ad : Option Addr
  cd : Nat
  fs : List (Int × Int)
  af : Option Addr
  cf : Nat
  keep : List Bool
  ak : Option Addr
  ck : Nat
structure OpA.fits (A : OpA) : Prop where
  i0 : -9223372036854775808 ≤ A.i
  i1 : A.i ≤ 9223372036854775807
  data : A.data.length ≤ 140737488351232
  dcap : A.data.length ≤ A.cd
  dnil : A.ad = none → A.cd = 0
  fs : A.fs.length ≤ 8796093022000
  fcap : A.fs.length ≤ A.cf
  fnil : A.af = none → A.cf = 0
  keep : A.keep.length ≤ 140737488351232
  kcap : A.keep.length ≤ A.ck
  knil : A.ak = none → A.ck = 0
def OpA.val (A : OpA) : Value := .agg #[.int .i64 A.kind, .int .i64 A.i, .bool A.sec, .slice A.ad A.data.length A.cd, .slice A.af A.fs.length A.cf, .slice A.ak A.keep.length A.ck]
/-- From an address on stand these calls. -/
def Oa (w : World) (ao : Option Addr) (l : List OpA) : Prop := ∀ (j : Nat) (A : OpA), l[j]? = some A → A.fits ∧ Rd w A.ad A.data ∧ Fd w A.af A.fs ∧ Bo w A.ak A.keep ∧ ∃ b o, ao = some ⟨b, o, none⟩ ∧
  w.cell? ⟨b, o + j * 6, none⟩ = some (.int .i64 A.kind) ∧ w.cell? ⟨b, o + j * 6 + 1, none⟩ = some (.int .i64 A.i) ∧ w.cell? ⟨b, o + j * 6 + 2, none⟩ = some (.bool A.sec) ∧ w.cell? ⟨b, o + j * 6 + 3, none⟩ = some (.slice A.ad A.data.length A.cd) ∧ w.cell? ⟨b, o + j * 6 + 4, none⟩ = some (.slice A.af A.fs.length A.cf) ∧ w.cell? ⟨b, o + j * 6 + 5, none⟩ = some (.slice A.ak A.keep.length A.ck)
theorem Oa.on {w w' : World} {ao : Option Addr} {l : List OpA} (h : Oa w ao l) (hb : Below w.heap.size w w') : Oa w' ao l := by
  intro j A hj
  obtain ⟨h1, h2, h3, h4, b, o, rfl, c0, c1, c2, c3, c4, c5⟩ := h j A hj
  exact ⟨h1, h2.on hb, h3.on hb, h4.on hb, b, o, rfl, (hb.cell (p := ⟨b, _, none⟩) (lt_of_rd c0)).trans c0, (hb.cell (p := ⟨b, _, none⟩) (lt_of_rd c1)).trans c1, (hb.cell (p := ⟨b, _, none⟩) (lt_of_rd c2)).trans c2, (hb.cell (p := ⟨b, _, none⟩) (lt_of_rd c3)).trans c3, (hb.cell (p := ⟨b, _, none⟩) (lt_of_rd c4)).trans c4, (hb.cell (p := ⟨b, _, none⟩) (lt_of_rd c5)).trans c5⟩
theorem wp_build {P : Program} {o : Oper} {a : Act} {w : World} {K : Act → World → Prop} {Q : Exit → Act → World → Prop} (t : TypeId) (cells : Array Value) (ho : o.op = .build t #[]) (h : P.built t [] = some cells) (hk : K (a.put o.dst (.agg cells)) w) : Oper.wp P o a w K Q := by
  unfold Oper.wp
  simp [execOp, ho, run_build w t #[] cells h, Result.andThen]
  exact hk
def mlay0 : MLay := ⟨.slice none 0 0, List.replicate 32 none, [], []⟩
theorem mkBorn {w W : World} {q : Nat} {rest : List It} (h : Bag w W (.box q mlay0.cells 41 :: rest)) : Bag w W (mkl q mlay0 (Dk.new 32).ls (Dk.new 32).ps rest) := by
  have hE : AllE [] (List.replicate 32 none) (List.replicate 32 Dk.zs) := by
    refine ⟨by rw [List.length_replicate, List.length_replicate], fun i x l hx hl => Or.inl ?_⟩
    rw [List.getElem?_replicate] at hx hl
    split at hx
    · rw [if_pos (by assumption)] at hl
      cases hx; cases hl
      exact ⟨rfl, rfl⟩
    · cases hx
  have h1 := ((h.fact (p := AllE [] (List.replicate 32 none) (List.replicate 32 Dk.zs) ∧ AllP [] [] [] ∧ (List.replicate 32 (none : Option (Nat × Nat))).length = 32) ⟨hE, AllP.nil _, List.length_replicate ..⟩).poolNil 5).nil 89 2
  exact h1.perm (List.perm_middle (l₁ := ([It.lst 89 2 (.slice none 0 0) 0 [], It.pool 5 [], It.fact (AllE [] (List.replicate 32 none) (List.replicate 32 Dk.zs) ∧ AllP [] [] [] ∧ (List.replicate 32 (none : Option (Nat × Nat))).length = 32)] : List It)) (l₂ := rest))
/-- A device and its model in step, behind n calls. -/
def InStep (w : World) (p q : Nat) (n : Nat) (D : Dk) (rest : List It) (W : World) : Prop := D.Wf n ∧ D.fs.length ≤ 10000000000000 ∧ D.ls.length = 32 ∧ ∃ L M, Bag w W (dkl p L D (mkl q M D.ls D.ps rest))
theorem act_wf {D : Dk} {n : Nat} (h : D.Wf n) (k i : Int) (data : List (BitVec 8)) (fs : List (Int × Int)) (keep : List Bool) : (D.act k i data fs keep).Wf (n + 1) := by
  unfold Dk.act
  repeat' split
  · exact h.read _
  · exact h.write _ _
  · exact h.write _ _
  · exact h.flush
  · exact (h.arm _).mono (by omega)
  · exact (h.crash _).mono (by omega)
  · exact h.take
  · exact h.mono (by omega)
theorem act_len (D : Dk) (k i : Int) (data : List (BitVec 8)) (fs : List (Int × Int)) (keep : List Bool) : (D.act k i data fs keep).ls.length = D.ls.length := by
  unfold Dk.act
  repeat' split
  · rw [readD_ls]
  · rw [writeD_ls]
  · rw [writeD_ls]
  · unfold Dk.flushD
    split
    · simp only [Dk.lay_len]
    · rw [Dk.opD_ls]
  · rw [(armD_ls D fs).1]
  · simp only [Dk.crashD, Dk.layK_len]
  · rfl
  · rfl
theorem act_fs (D : Dk) (k i : Int) (data : List (BitVec 8)) (fs : List (Int × Int)) (keep : List Bool) (h : D.fs.length ≤ 10000000000000) (h2 : fs.length ≤ 8796093022000) : (D.act k i data fs keep).fs.length ≤ 10000000000000 := by
  unfold Dk.act
  repeat' split
  · unfold Dk.readD; split <;> (try simp only [Dk.opD_fs]) <;> exact h
  · unfold Dk.writeD; repeat' split
    all_goals (try simp only [Dk.opD_fs])
    all_goals exact h
  · unfold Dk.writeD; repeat' split
    all_goals (try simp only [Dk.opD_fs])
    all_goals exact h
  · unfold Dk.flushD; split <;> (try simp only [Dk.opD_fs]) <;> exact h
  · unfold Dk.armD; split
    · simp only; omega
    · exact h
  · simp [Dk.crashD]
  · exact h
  · exact h
/-- One call at both. -/
theorem follows (w W : World) (p q : Nat) (D : Dk) (rest : List It) (n : Nat) (A : OpA) (hA : A.fits) (hn : n ≤ 1000000000) (hr : ∀ W', Bag w W' rest → Rd W' A.ad A.data ∧ Fd W' A.af A.fs ∧ Bo W' A.ak A.keep) (h : InStep w p q n D rest W) :
   Calls Try.prog 19 #[.pointer (some ⟨q, 0, none⟩), .pointer (some ⟨p, 0, none⟩), A.val] W fun e W' => e = .returned (.bool true) ∧ InStep w p q (n + 1) (D.act A.kind A.i A.data A.fs A.keep) rest W' := by
  obtain ⟨h1, h2, h3, L, M, hB⟩ := h
  refine (followsOf w W p q L M D rest n A.i A.sec A.ad A.af A.ak _ A.cd _ A.cf _ A.ck A.data A.fs A.keep rfl rfl rfl hA.data hA.fs hA.fcap hA.fnil hA.keep h1 hn h2 h3 hA.i0 hA.i1 hr hB A.kind).mono ?_
  rintro e W' ⟨he, L', M', hB'⟩
  exact ⟨he, act_wf h1 _ _ _ _ _, act_fs _ _ _ _ _ _ h2 hA.fs, by rw [act_len]; exact h3, L', M', hB'⟩
theorem new32_in {w W : World} {p q : Nat} {L : Lay} {rest : List It} {n : Nat} (hB : Bag w W (dkl p L (Dk.new 32) (mkl q mlay0 (Dk.new 32).ls (Dk.new 32).ps rest))) : InStep w p q n (Dk.new 32) rest W :=
  ⟨Dk.Wf.new 32 n (by omega) (by omega), by simp [Dk.new], List.length_replicate .., L, mlay0, hB⟩
/-- The device and its model as they are made. -/
theorem born_in {w W : World} {p q n : Nat} {L : Lay} (h : Bag w W (.box q #[.slice none 0 0, .slice none 0 0, .slice none 0 0, .slice none 0 0, .slice none 0 0, .slice none 0 0, .slice none 0 0, .slice none 0 0, .slice none 0 0, .slice none 0 0, .slice none 0 0, .slice none 0 0, .slice none 0 0, .slice none 0 0, .slice none 0 0, .slice none 0 0, .slice none 0 0, .slice none 0 0, .slice none 0 0, .slice none 0 0, .slice none 0 0, .slice none 0 0, .slice none 0 0, .slice none 0 0, .slice none 0 0, .slice none 0 0, .slice none 0 0, .slice none 0 0, .slice none 0 0, .slice none 0 0, .slice none 0 0, .slice none 0 0, .slice none 0 0] 41 :: ([It.disk p L (Dk.new 32)] ++ []))) : InStep w p q n (Dk.new 32) [] W := by
  have h1 : Bag w W (mkl q mlay0 (Dk.new 32).ls (Dk.new 32).ps [It.disk p L (Dk.new 32)]) := mkBorn h
  have h2 := h1.perm (List.perm_append_comm (l₁ := mkl q mlay0 (Dk.new 32).ls (Dk.new 32).ps []) (l₂ := [It.disk p L (Dk.new 32)]))
  exact new32_in ((disk_iff (rest := mkl q mlay0 (Dk.new 32).ls (Dk.new 32).ps [])).1 h2)
end Go.Proofs.Ytkndlpihhfjcpaa
