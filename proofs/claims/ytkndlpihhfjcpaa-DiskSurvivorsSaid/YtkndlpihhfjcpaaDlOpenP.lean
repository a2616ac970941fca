/- Arguments that come in: writes by hand. -/
import Derived.Test.YtkndlpihhfjcpaaDlOpen
import Derived.Test.YtkndlpihhfjcpaaDlPuts
namespace Go.Proofs.Ytkndlpihhfjcpaa
open Go.RowKit Go.ChangeShapes Go.WideShapes Go.ChangeAt
set_option maxRecDepth 20000
section
variable {H : Type} {enc : TypeId × Value → H} {W : World}
theorem cells_put : Try.prog.cellsOf 53 = 2 := by kernel_rfl
def PutT (W : World) (d : DataW H) (cs : List Value) (A : PutA) : Prop := cs = [.int .i64 A.i, .slice A.ad A.data.length A.cd] ∧ (-9223372036854775808 ≤ A.i ∧ A.i ≤ 9223372036854775807) ∧ (Rd W A.ad A.data ∧ A.data.length ≤ A.cd ∧ (A.ad = none → A.cd = 0)) ∧ ∃ d0 d1, d = .agg [d0, d1] ∧ Lng d1 A.data.length
theorem tread_put {n : Nat} {cs : List Value} {x : DataW H × List MemPlace} (hl : cs.length = 2) (hf : DataW.trod enc Try.prog W 0 (fun _ => true) true n 53 cs = some x) : ∃ A, PutT W x.1 cs A := by
  match cs, hl with
  | [c0, c1], _ =>
    obtain ⟨xs, m, _, hx, _, hlen, hg⟩ := DataW.trod_struct Try.underlying53 hf
    match xs, hlen with
    | [y0, y1], _ =>
      have h0 := hg 0 _ rfl
      have h1 := hg 1 _ rfl
      simp only [List.getElem?_cons_zero, List.getElem?_cons_succ] at h0 h1
      obtain ⟨i, rfl, hi0, hi1⟩ := tread_int h0
      obtain ⟨ad, data, cd, hc1, r1, r2, r3, r4⟩ := tread_bytes h1
      obtain rfl : c1 = .slice ad data.length cd := by
        have hc' : List.take (Try.prog.cellsOf 37) [c1] = [.slice ad data.length cd] := hc1
        rw [cells_bytes] at hc'
        simpa using hc'
      exact ⟨⟨i, data, ad, cd⟩, rfl, ⟨hi0, hi1⟩, ⟨r1, r3, r2⟩, y0.1, y1.1, by rw [hx]; rfl, r4⟩
theorem putT_fits {d : DataW H} {cs : List Value} {A : PutA} (h : PutT W d cs A) (hw : ∀ n ∈ d.weights Try.prog 53, n ≤ reachBytes) : A.fits := by
  obtain ⟨_, ⟨i0, i1⟩, ⟨_, r2, r3⟩, d0, d1, rfl, l1⟩ := h
  simp only [DataW.weights, Try.underlying53] at hw
  have e1 := lng_le Try.underlying37 bytes_u8 l1 fun n hn => hw n (DataW.weights_mem_each (j := 1) rfl rfl n hn)
  exact ⟨i0, i1, by omega, r2, r3⟩
variable {base j : Nat} {v : Value} {d : DataW H} {p : List MemPlace} {ts : List TypeId} {ds : List (DataW H)}
theorem open_puts (hs : (DataW.weightsEach Try.prog ts ds).all (· ≤ reachBytes) = true) (ht : ts[j]? = some 51) (hd : ds[j]? = some d)
    (hval : Value.okWide Try.prog W .any base 51 v) (h : DataW.Trod enc Try.prog W 0 (fun _ => true) true 51 v d p) :
    ∃ (ao : Option Addr) (l : List PutA) (cap : Nat), v = .slice ao l.length cap ∧ l.length ≤ 140737488351232 ∧ Pu W ao l := by
  have hw := weights_all hs ht hd
  obtain ⟨a0, len, c0, rfl⟩ := okWide_slice Try.underlying51 hval
  obtain ⟨fuel, hf⟩ := h
  obtain ⟨ao, l, cap, hcs, hle, _, hx⟩ := tread_list (PutT W) Try.underlying51 cells_put (by decide) (fun n cs' y hl hy => tread_put hl hy) hf
  refine ⟨ao, l, cap, by simpa [Value.cells] using hcs, ?_, ?_⟩
  · have hl : Lng d l.length := by
      rcases hx with ⟨h1, rfl⟩ | ⟨el, sp, h1, h2, _⟩
      · exact Or.inl ⟨h1, rfl⟩
      · exact Or.inr ⟨el, sp, h1, h2⟩
    have hb : Try.prog.bytesOf 53 = 32 := by kernel_rfl
    have := lng_le Try.underlying51 hb hl hw
    omega
  · intro i A hi
    rcases hx with ⟨_, rfl⟩ | ⟨el, sp, rfl, _, h3⟩
    · simp at hi
    · obtain ⟨d', cs', hd', hT, b, o, hao, hc⟩ := h3 i A hi
      have hfit := putT_fits hT fun n hn => hw n (weights_elem Try.underlying51 hd' n hn)
      obtain ⟨rfl, _, ⟨r1, _, _⟩, _⟩ := hT
      exact ⟨hfit, r1, b, o, hao, hc 0 _ rfl, hc 1 _ rfl⟩
end
end Go.Proofs.Ytkndlpihhfjcpaa
