/- Writes by hand that come in: where they stand; a call made of one. -/
import Derived.Test.YtkndlpihhfjcpaaDlArgs
namespace Go.Proofs.Ytkndlpihhfjcpaa
open Go.RowKit
structure PutA where
  i : Int
  data : List (BitVec 8)
  ad : Option Addr
  cd : Nat
instance : Inhabited PutA := ⟨⟨0, [], none, 0⟩⟩
structure PutA.fits (A : PutA) : Prop where
  i0 : -9223372036854775808 ≤ A.i
  i1 : A.i ≤ 9223372036854775807
  data : A.data.length ≤ 140737488351232
  dcap : A.data.length ≤ A.cd
  dnil : A.ad = none → A.cd = 0
def PutA.op (A : PutA) : OpA := ⟨2, A.i, false, A.data, A.ad, A.cd, [], none, 0, [], none, 0⟩
theorem PutA.opFits {A : PutA} (h : A.fits) : A.op.fits := ⟨h.i0, h.i1, h.data, h.dcap, h.dnil, by simp [PutA.op], by simp [PutA.op], fun _ => rfl, by simp [PutA.op], by simp [PutA.op], fun _ => rfl⟩
/-- From an address on stand these writes. -/
def Pu (w : World) (ao : Option Addr) (l : List PutA) : Prop := ∀ (j : Nat) (A : PutA), l[j]? = some A → A.fits ∧ Rd w A.ad A.data ∧ ∃ b o, ao = some ⟨b, o, none⟩ ∧ w.cell? ⟨b, o + j * 2, none⟩ = some (.int .i64 A.i) ∧ w.cell? ⟨b, o + j * 2 + 1, none⟩ = some (.slice A.ad A.data.length A.cd)
theorem Pu.on {w w' : World} {ao : Option Addr} {l : List PutA} (h : Pu w ao l) (hb : Below w.heap.size w w') : Pu w' ao l := by
  intro j A hj
  obtain ⟨h1, h2, b, o, rfl, c0, c1⟩ := h j A hj
  exact ⟨h1, h2.on hb, b, o, rfl, (hb.cell (p := ⟨b, _, none⟩) (lt_of_rd c0)).trans c0, (hb.cell (p := ⟨b, _, none⟩) (lt_of_rd c1)).trans c1⟩
theorem Fd.nil (w : World) (ao : Option Addr) : Fd w ao [] := by intro j f h; simp at h
/-- Calm: nothing is armed, the power is on. -/
def Dk.Calm (D : Dk) : Prop := D.off = false ∧ D.fs = []
theorem calm_e {D : Dk} (h : D.Calm) : D.opE = 0 := by
  unfold Dk.opE
  rw [h.1, h.2]
  rfl
theorem calm_op {D : Dk} (h : D.Calm) : D.opD.Calm := by
  unfold Dk.Calm Dk.opD
  rw [h.1, h.2]
  exact ⟨rfl, rfl⟩
theorem calm_write {D : Dk} (h : D.Calm) {z : Nat} {b : List (BitVec 8)} (hz : z < D.ls.length) (hb : b.length = 512) : (D.writeD z b).Calm ∧ (D.writeD z b).ps.length = D.ps.length + 1 := by
  have h1 := writeD_yes hz hb (calm_e h)
  refine ⟨?_, by rw [h1.1]; simp⟩
  unfold Dk.writeD
  rw [inn_at hz, hb, calm_e h]
  exact calm_op h
theorem calm_flush {D : Dk} (h : D.Calm) : D.flushD.Calm ∧ D.flushD.ps = [] := by
  unfold Dk.flushD
  rw [if_pos (calm_e h)]
  exact ⟨calm_op h, rfl⟩
theorem act2 {D : Dk} (h : D.Calm) (hl : D.ls.length = 32) (i : Int) (data : List (BitVec 8)) : (D.act 2 i data [] []).Calm ∧ (D.act 2 i data [] []).ps.length = D.ps.length + 1 := by
  have hb := placeZ_bd i 32 (by omega)
  obtain ⟨z, hz⟩ : ∃ z : Nat, placeZ i 32 = z := ⟨(placeZ i 32).toNat, by omega⟩
  have e : D.act 2 i data [] [] = D.writeD z (padB data) := by rw [← hz]; rfl
  rw [e]
  exact calm_write h (by omega) (padB_len _)
def opK (k : Int) (keep : List Bool) (ak : Option Addr) (ck : Nat) : OpA := ⟨k, 0, false, [], none, 0, [], none, 0, keep, ak, ck⟩
theorem opK_fits (k : Int) {keep : List Bool} {ak : Option Addr} {ck : Nat} (h : keep.length ≤ 140737488351232) (h1 : keep.length ≤ ck) (h2 : ak = none → ck = 0) : (opK k keep ak ck).fits := ⟨by simp [opK], by simp [opK], by simp [opK], by simp [opK], fun _ => rfl, by simp [opK], by simp [opK], fun _ => rfl, h, h1, h2⟩
theorem act4 (D : Dk) : D.act 4 0 [] [] [] = D.flushD := rfl
theorem act6 (D : Dk) (keep : List Bool) : D.act 6 0 [] [] keep = D.crashD keep := rfl
end Go.Proofs.Ytkndlpihhfjcpaa
