/- Arguments that come in: a slice of any rows; calls, faults, flags, writes. Arguments that come in: calls, faults, flags, writes, whole. -/
import Derived.Test.YtkndlpihhfjcpaaPlainGlue
import Derived.Test.YtkndlpihhfjcpaaDlArgs
import Derived.Deep.Fields
namespace Go.Proofs.Ytkndlpihhfjcpaa
section
open Go.RowKit Go.ChangeShapes Go.WideShapes Go.ChangeAt
set_option maxRecDepth 20000
theorem weightsAll_mem {H : Type} {P : Program} {e : TypeId} : ∀ {l : List (DataW H)} {i : Nat} {d : DataW H}, l[i]? = some d → ∀ n ∈ d.weights P e, n ∈ DataW.weightsAll P e l
  | a :: r, 0, d, hd, n, hn => by
    simp only [List.getElem?_cons_zero, Option.some.injEq] at hd
    subst hd
    simp only [DataW.weightsAll, List.mem_append]
    exact Or.inl hn
  | a :: r, i + 1, d, hd, n, hn => by
    simp only [List.getElem?_cons_succ] at hd
    simp only [DataW.weightsAll, List.mem_append]
    exact Or.inr (weightsAll_mem hd n hn)
  | [], i, d, hd, n, hn => by simp at hd
/-- What a slice's element weighs, the slice weighs; and its own length. -/
theorem weights_elem {H : Type} {P : Program} {t e : TypeId} (ht : P.underlying t = some (.slice e)) {el sp : List (DataW H)} {i : Nat} {d : DataW H} (hd : el[i]? = some d) : ∀ n ∈ d.weights P e, n ∈ (DataW.slice el sp).weights P t := by
  intro n hn
  simp only [DataW.weights, ht]
  exact List.mem_cons_of_mem _ (List.mem_append_left _ (weightsAll_mem hd _ hn))
theorem weights_len {H : Type} {P : Program} {t e : TypeId} (ht : P.underlying t = some (.slice e)) (el sp : List (DataW H)) : (el.length + sp.length) * P.bytesOf e ∈ (DataW.slice el sp).weights P t := by
  simp only [DataW.weights, ht]
  exact List.mem_cons_self
/-- A slice, row by row. T: what an element's datum and cells say of it. -/
theorem tread_list {H : Type} {enc : TypeId × Value → H} {P : Program} {W : World} {t e : TypeId} {fuel k : Nat} {cs : List Value} {x : DataW H × List MemPlace} {α : Type} [Inhabited α] (T : DataW H → List Value → α → Prop)
    (ht : P.underlying t = some (.slice e)) (hk : P.cellsOf e = k) (hk0 : 0 < k)
    (hel : ∀ (n : Nat) (cs' : List Value) (y : DataW H × List MemPlace), cs'.length = k → DataW.trod enc P W 0 (fun _ => true) true n e cs' = some y → ∃ a, T y.1 cs' a)
    (hf : DataW.trod enc P W 0 (fun _ => true) true fuel t cs = some x) :
    ∃ (ao : Option Addr) (l : List α) (cap : Nat), cs = [.slice ao l.length cap] ∧ l.length ≤ cap ∧ (ao = none → cap = 0) ∧ ((x.1 = .nil ∧ l = []) ∨ ∃ el sp, x.1 = .slice el sp ∧ el.length = l.length ∧
      ∀ (i : Nat) (a : α), l[i]? = some a → ∃ d' cs', el[i]? = some d' ∧ T d' cs' a ∧ ∃ b o, ao = some ⟨b, o, none⟩ ∧ ∀ (j : Nat) (v : Value), cs'[j]? = some v → W.cell? ⟨b, o + (i * k + j), none⟩ = some v) := by
  rcases Deep.open_slice ht hf with ⟨hcs, hx⟩ | ⟨a, len, cap, m, n, D, Pl, hcs, _, hl, hm, hmm, hx, helx⟩
  · exact ⟨none, [], 0, hcs, Nat.le_refl _, fun _ => rfl, Or.inl ⟨by rw [hx], rfl⟩⟩
  · simp only [if_true] at hmm
    subst hmm
    have hel' : ∀ i, i < len → ∃ q : List Value × α, W.cells? 0 (a.add (i * k)) k = some q.1 ∧ T (D i) q.1 q.2 := by
      intro i hi
      obtain ⟨cs', h1, h2⟩ := helx i (by omega)
      rw [hk] at h1
      obtain ⟨_, hlen, _⟩ := World.cells?_some h1
      obtain ⟨z, hz⟩ := hel n cs' _ hlen h2
      exact ⟨(cs', z), h1, hz⟩
    obtain ⟨q, hq⟩ := Deep.choose_lt hel'
    refine ⟨some a, (List.range len).map fun i => (q i).2, m, by simpa using hcs, by simpa using hl, (fun h => by cases h), Or.inr ⟨_, _, by rw [hx], by simp, ?_⟩⟩
    intro i z hi
    rw [List.getElem?_map] at hi
    have hlt : i < len := by
      rcases Nat.lt_or_ge i len with h | h
      · exact h
      · rw [List.getElem?_eq_none (by simpa using h)] at hi; cases hi
    rw [List.getElem?_range hlt] at hi
    simp only [Option.map_some, Option.some.injEq] at hi
    subst hi
    obtain ⟨h1, h2⟩ := hq i hlt
    refine ⟨D i, (q i).1, by rw [List.getElem?_map, List.getElem?_range hlt]; rfl, h2, ?_⟩
    obtain ⟨_, hlen, hcell⟩ := World.cells?_some h1
    obtain ⟨b, off, spot⟩ := a
    have hspot : spot = none := by
      obtain ⟨_, hlen0, hc0⟩ := World.cells?_some (hq 0 (by omega)).1
      have h0 := World.cell?_spot ((hc0 0 hk0).trans (List.getElem?_eq_getElem (show 0 < (q 0).1.length by omega)))
      simpa [Addr.add] using h0
    subst hspot
    refine ⟨b, off, rfl, fun j v hj => ?_⟩
    have hjl : j < k := by have := (List.getElem?_eq_some_iff.1 hj).1; omega
    have h3 := hcell j hjl
    rw [Deep.add_add, Addr.add_lit] at h3
    rw [h3, hj]
theorem cells_bytes : Try.prog.cellsOf 37 = 1 := by kernel_rfl
theorem cells_faults : Try.prog.cellsOf 22 = 1 := by kernel_rfl
theorem cells_bools : Try.prog.cellsOf 42 = 1 := by kernel_rfl
theorem cells_bool : Try.prog.cellsOf 4 = 1 := by kernel_rfl
theorem cells_fault : Try.prog.cellsOf 29 = 2 := by kernel_rfl
theorem cells_op : Try.prog.cellsOf 44 = 6 := by kernel_rfl
theorem bytes_bool : Try.prog.bytesOf 4 = 1 := by kernel_rfl
theorem bytes_fault : Try.prog.bytesOf 29 = 16 := by kernel_rfl
section
variable {H : Type} {enc : TypeId × Value → H} {W : World}
theorem tread_int {n : Nat} {v : Value} {x : DataW H × List MemPlace} (hf : DataW.trod enc Try.prog W 0 (fun _ => true) true n 3 [v] = some x) :
    ∃ z, v = .int .i64 z ∧ -9223372036854775808 ≤ z ∧ z ≤ 9223372036854775807 := by
  obtain ⟨z, h, _, hw⟩ := DataW.trod_int Try.underlying3 hf
  simp at h
  exact ⟨z, h, bounds_i64 hw⟩
theorem tread_bool {n : Nat} {v : Value} {x : DataW H × List MemPlace} (hf : DataW.trod enc Try.prog W 0 (fun _ => true) true n 4 [v] = some x) : ∃ b, v = .bool b := by
  obtain ⟨b, h, _⟩ := DataW.trod_bool Try.underlying4 hf
  simp at h
  exact ⟨b, h⟩
/-- Its datum is a list of that length. -/
def Lng (d : DataW H) (n : Nat) : Prop := (d = .nil ∧ n = 0) ∨ ∃ el sp, d = .slice el sp ∧ el.length = n
theorem tread_bytes {n : Nat} {cs : List Value} {x : DataW H × List MemPlace} (hf : DataW.trod enc Try.prog W 0 (fun _ => true) true n 37 cs = some x) :
    ∃ (ao : Option Addr) (l : List (BitVec 8)) (cap : Nat), cs = [.slice ao l.length cap] ∧ Rd W ao l ∧ (ao = none → cap = 0) ∧ l.length ≤ cap ∧ Lng x.1 l.length := by
  rcases open_ints Try.underlying37 Try.underlying5 cells_u8 hf with ⟨hcs, hx⟩ | ⟨a, len', cap', zs, hcs, _, hl, hm, hz, hx, hcell, hwz⟩
  · exact ⟨none, [], 0, hcs, Rd.nil _ _, fun _ => rfl, by simp, Or.inl ⟨by rw [hx], rfl⟩⟩
  · simp only [if_true] at hz
    obtain ⟨l, hlz⟩ : ∃ l : List (BitVec 8), zs.take len' = l.map n8 := by
      refine ⟨(zs.take len').map fun z => BitVec.ofNat 8 z.toNat, ?_⟩
      rw [List.map_map]
      conv => lhs; rw [← List.map_id (zs.take len')]
      refine List.map_congr_left fun z hz => ?_
      have := bounds_u8 (hwz z (List.mem_of_mem_take hz))
      exact n8_of z this.1 (by omega)
    have hll : l.length = len' := by
      have := congrArg List.length hlz
      simp at this
      omega
    refine ⟨some a, l, cap', by rw [hll]; exact hcs, ?_, (fun h => by cases h), by omega, Or.inr ⟨_, _, by rw [hx], by simp only [lits, List.length_map, List.length_take]; omega⟩⟩
    rcases Nat.eq_zero_or_pos l.length with h0 | h0
    · rw [List.length_eq_zero_iff.1 h0]; exact Rd.nil _ _
    · obtain ⟨b, off, spot⟩ := a
      have hspot : spot = none := by simpa [Addr.add] using World.cell?_spot (hcell 0 (by omega))
      subst hspot
      refine Or.inr ⟨b, off, rfl, fun i hi => ?_⟩
      have e1 := hcell i (by omega)
      rw [Addr.add_lit] at e1
      rw [e1]
      have e2 : (zs.take len')[i]? = (l.map n8)[i]? := by rw [hlz]
      rw [List.getElem?_take_of_lt (by omega), List.getElem?_map, List.getElem?_eq_getElem hi] at e2
      simp only [List.getD, e2, List.getElem?_eq_getElem hi, Option.map_some, Option.getD_some]
theorem tread_bools {n : Nat} {cs : List Value} {x : DataW H × List MemPlace} (hf : DataW.trod enc Try.prog W 0 (fun _ => true) true n 42 cs = some x) :
    ∃ (ao : Option Addr) (l : List Bool) (cap : Nat), cs = [.slice ao l.length cap] ∧ l.length ≤ cap ∧ (ao = none → cap = 0) ∧ Bo W ao l ∧ Lng x.1 l.length := by
  obtain ⟨ao, l, cap, h1, h2, h3, h4⟩ := tread_list (fun _ cs b => cs = [Value.bool b]) Try.underlying42 cells_bool (by decide) (fun n cs' y hl hy => by
    match cs', hl with
    | [c0], _ =>
      obtain ⟨b, rfl⟩ := tread_bool hy
      exact ⟨b, rfl⟩) hf
  refine ⟨ao, l, cap, h1, h2, h3, ?_, ?_⟩
  · rcases h4 with ⟨_, rfl⟩ | ⟨el, sp, _, _, h5⟩
    · exact Bo.nil _ _
    · intro j b hj
      obtain ⟨d', cs', _, rfl, b0, o, h6, h7⟩ := h5 j b hj
      exact ⟨b0, o, h6, by have := h7 0 _ rfl; simpa using this⟩
  · rcases h4 with ⟨h5, rfl⟩ | ⟨el, sp, h5, h6, _⟩
    · exact Or.inl ⟨h5, rfl⟩
    · exact Or.inr ⟨el, sp, h5, h6⟩
theorem tread_faults {n : Nat} {cs : List Value} {x : DataW H × List MemPlace} (hf : DataW.trod enc Try.prog W 0 (fun _ => true) true n 22 cs = some x) :
    ∃ (ao : Option Addr) (l : List (Int × Int)) (cap : Nat), cs = [.slice ao l.length cap] ∧ l.length ≤ cap ∧ (ao = none → cap = 0) ∧ Fd W ao l ∧ Lng x.1 l.length := by
  obtain ⟨ao, l, cap, h1, h2, h3, h4⟩ := tread_list (fun _ cs f => cs = [Value.int .i64 (f : Int × Int).1, .int .i64 f.2]) Try.underlying22 cells_fault (by decide) (fun n cs' y hl hy => by
    match cs', hl with
    | [c0, c1], _ =>
      obtain ⟨xs, m, _, _, _, hlen, hg⟩ := DataW.trod_struct Try.underlying29 hy
      have g0 := hg 0 _ rfl
      have g1 := hg 1 _ rfl
      match xs, hlen with
      | [y0, y1], _ =>
        simp only [List.getElem?_cons_zero, List.getElem?_cons_succ] at g0 g1
        obtain ⟨a, rfl, _⟩ := tread_int g0
        obtain ⟨b, rfl, _⟩ := tread_int g1
        exact ⟨(a, b), rfl⟩) hf
  refine ⟨ao, l, cap, h1, h2, h3, ?_, ?_⟩
  · rcases h4 with ⟨_, rfl⟩ | ⟨el, sp, _, _, h5⟩
    · intro j f hj; simp at hj
    · intro j f hj
      obtain ⟨d', cs', _, rfl, b0, o, h6, h7⟩ := h5 j f hj
      have e0 := h7 0 _ rfl
      have e1 := h7 1 _ rfl
      exact ⟨b0, o, h6, by simpa using e0, by simpa [Nat.add_assoc] using e1⟩
  · rcases h4 with ⟨h5, rfl⟩ | ⟨el, sp, h5, h6, _⟩
    · exact Or.inl ⟨h5, rfl⟩
    · exact Or.inr ⟨el, sp, h5, h6⟩
/-- A length, out of what the datum weighs. -/
theorem lng_le {t e : TypeId} {d : DataW H} {n b : Nat} (ht : Try.prog.underlying t = some (.slice e)) (hb : Try.prog.bytesOf e = b) (hd : Lng d n) (h : ∀ k ∈ d.weights Try.prog t, k ≤ reachBytes) : n * b ≤ 140737488351232 := by
  rcases hd with ⟨_, rfl⟩ | ⟨el, sp, rfl, rfl⟩
  · omega
  · have h1 := h _ (weights_len ht el sp)
    rw [hb] at h1
    have h6 : reachBytes = 140737488351232 := rfl
    rw [h6] at h1
    have := Nat.mul_le_mul_right b (Nat.le_add_right el.length sp.length)
    omega
end
instance : Inhabited OpA := ⟨⟨0, 0, false, [], none, 0, [], none, 0, [], none, 0⟩⟩
end
section
open Go.RowKit Go.ChangeShapes Go.WideShapes Go.ChangeAt
set_option maxRecDepth 20000
section
variable {H : Type} {enc : TypeId × Value → H} {W : World}
/-- What an operation's datum and cells say. -/
def OpT (W : World) (d : DataW H) (cs : List Value) (A : OpA) : Prop := cs = [.int .i64 A.kind, .int .i64 A.i, .bool A.sec, .slice A.ad A.data.length A.cd, .slice A.af A.fs.length A.cf, .slice A.ak A.keep.length A.ck] ∧
  (-9223372036854775808 ≤ A.i ∧ A.i ≤ 9223372036854775807) ∧ (Rd W A.ad A.data ∧ A.data.length ≤ A.cd ∧ (A.ad = none → A.cd = 0)) ∧ (Fd W A.af A.fs ∧ A.fs.length ≤ A.cf ∧ (A.af = none → A.cf = 0)) ∧ (Bo W A.ak A.keep ∧ A.keep.length ≤ A.ck ∧ (A.ak = none → A.ck = 0)) ∧
  ∃ d0 d1 d2 d3 d4 d5, d = .agg [d0, d1, d2, d3, d4, d5] ∧ Lng d3 A.data.length ∧ Lng d4 A.fs.length ∧ Lng d5 A.keep.length
theorem tread_op {n : Nat} {cs : List Value} {x : DataW H × List MemPlace} (hl : cs.length = 6) (hf : DataW.trod enc Try.prog W 0 (fun _ => true) true n 44 cs = some x) : ∃ A, OpT W x.1 cs A := by
  match cs, hl with
  | [c0, c1, c2, c3, c4, c5], _ =>
    obtain ⟨xs, m, _, hx, _, hlen, hg⟩ := DataW.trod_struct Try.underlying44 hf
    match xs, hlen with
    | [y0, y1, y2, y3, y4, y5], _ =>
      have h0 := hg 0 _ rfl
      have h1 := hg 1 _ rfl
      have h2 := hg 2 _ rfl
      have h3 := hg 3 _ rfl
      have h4 := hg 4 _ rfl
      have h5 := hg 5 _ rfl
      simp only [List.getElem?_cons_zero, List.getElem?_cons_succ] at h0 h1 h2 h3 h4 h5
      obtain ⟨k, rfl, _, _⟩ := tread_int h0
      obtain ⟨i, rfl, hi0, hi1⟩ := tread_int h1
      obtain ⟨s, rfl⟩ := tread_bool h2
      obtain ⟨ad, data, cd, hc3, r1, r2, r3, r4⟩ := tread_bytes h3
      obtain ⟨af, fs, cf, hc4, s1, s2, s3, s4⟩ := tread_faults h4
      obtain ⟨ak, keep, ck, hc5, t1, t2, t3, t4⟩ := tread_bools h5
      obtain rfl : c3 = .slice ad data.length cd := by
        have hc' : List.take (Try.prog.cellsOf 37) [c3, c4, c5] = [.slice ad data.length cd] := hc3
        rw [cells_bytes] at hc'
        simpa using hc'
      obtain rfl : c4 = .slice af fs.length cf := by
        have hc' : List.take (Try.prog.cellsOf 22) [c4, c5] = [.slice af fs.length cf] := hc4
        rw [cells_faults] at hc'
        simpa using hc'
      obtain rfl : c5 = .slice ak keep.length ck := by
        have hc' : List.take (Try.prog.cellsOf 42) [c5] = [.slice ak keep.length ck] := hc5
        rw [cells_bools] at hc'
        simpa using hc'
      exact ⟨⟨k, i, s, data, ad, cd, fs, af, cf, keep, ak, ck⟩, rfl, ⟨hi0, hi1⟩, ⟨r1, r3, r2⟩, ⟨s3, s1, s2⟩, ⟨t3, t1, t2⟩, y0.1, y1.1, y2.1, y3.1, y4.1, y5.1, by rw [hx]; rfl, r4, s4, t4⟩
theorem opT_fits {d : DataW H} {cs : List Value} {A : OpA} (h : OpT W d cs A) (hw : ∀ n ∈ d.weights Try.prog 44, n ≤ reachBytes) : A.fits := by
  obtain ⟨_, ⟨i0, i1⟩, ⟨_, r2, r3⟩, ⟨_, s2, s3⟩, ⟨_, t2, t3⟩, d0, d1, d2, d3, d4, d5, rfl, l3, l4, l5⟩ := h
  simp only [DataW.weights, Try.underlying44] at hw
  have e3 := lng_le Try.underlying37 bytes_u8 l3 fun n hn => hw n (DataW.weights_mem_each (j := 3) rfl rfl n hn)
  have e4 := lng_le Try.underlying22 bytes_fault l4 fun n hn => hw n (DataW.weights_mem_each (j := 4) rfl rfl n hn)
  have e5 := lng_le Try.underlying42 bytes_bool l5 fun n hn => hw n (DataW.weights_mem_each (j := 5) rfl rfl n hn)
  exact ⟨i0, i1, by omega, r2, r3, by omega, s2, s3, by omega, t2, t3⟩
variable {base j : Nat} {v : Value} {d : DataW H} {p : List MemPlace} {ts : List TypeId} {ds : List (DataW H)}
theorem weights_all (hs : (DataW.weightsEach Try.prog ts ds).all (· ≤ reachBytes) = true) {t : TypeId} (ht : ts[j]? = some t) (hd : ds[j]? = some d) : ∀ n ∈ d.weights Try.prog t, n ≤ reachBytes :=
  fun _ hn => of_decide_eq_true (List.all_eq_true.1 hs _ (DataW.weights_mem_each ht hd _ hn))
theorem open_ops (hs : (DataW.weightsEach Try.prog ts ds).all (· ≤ reachBytes) = true) (ht : ts[j]? = some 35) (hd : ds[j]? = some d)
    (hval : Value.okWide Try.prog W .any base 35 v) (h : DataW.Trod enc Try.prog W 0 (fun _ => true) true 35 v d p) :
    ∃ (ao : Option Addr) (l : List OpA) (cap : Nat), v = .slice ao l.length cap ∧ l.length ≤ 140737488351232 ∧ Oa W ao l := by
  have hw := weights_all hs ht hd
  obtain ⟨a0, len, c0, rfl⟩ := okWide_slice Try.underlying35 hval
  obtain ⟨fuel, hf⟩ := h
  obtain ⟨ao, l, cap, hcs, hle, _, hx⟩ := tread_list (OpT W) Try.underlying35 cells_op (by decide) (fun n cs' y hl hy => tread_op hl hy) hf
  refine ⟨ao, l, cap, by simpa [Value.cells] using hcs, ?_, ?_⟩
  · have hl : Lng d l.length := by
      rcases hx with ⟨h1, rfl⟩ | ⟨el, sp, h1, h2, _⟩
      · exact Or.inl ⟨h1, rfl⟩
      · exact Or.inr ⟨el, sp, h1, h2⟩
    have hb : Try.prog.bytesOf 44 = 96 := by kernel_rfl
    have := lng_le Try.underlying35 hb hl hw
    omega
  · intro i A hi
    rcases hx with ⟨_, rfl⟩ | ⟨el, sp, rfl, _, h3⟩
    · simp at hi
    · obtain ⟨d', cs', hd', hT, b, o, hao, hc⟩ := h3 i A hi
      have hfit := opT_fits hT fun n hn => hw n (weights_elem Try.underlying35 hd' n hn)
      obtain ⟨rfl, _, ⟨r1, _, _⟩, ⟨s1, _, _⟩, ⟨t1, _, _⟩, _⟩ := hT
      exact ⟨hfit, r1, s1, t1, b, o, hao, hc 0 _ rfl, hc 1 _ rfl, hc 2 _ rfl, hc 3 _ rfl, hc 4 _ rfl, hc 5 _ rfl⟩
theorem open_faults (hs : (DataW.weightsEach Try.prog ts ds).all (· ≤ reachBytes) = true) (ht : ts[j]? = some 22) (hd : ds[j]? = some d)
    (hval : Value.okWide Try.prog W .any base 22 v) (h : DataW.Trod enc Try.prog W 0 (fun _ => true) true 22 v d p) :
    ∃ (ao : Option Addr) (l : List (Int × Int)) (cap : Nat), v = .slice ao l.length cap ∧ l.length ≤ 8796093022000 ∧ l.length ≤ cap ∧ (ao = none → cap = 0) ∧ Fd W ao l := by
  have hw := weights_all hs ht hd
  obtain ⟨a0, len, c0, rfl⟩ := okWide_slice Try.underlying22 hval
  obtain ⟨fuel, hf⟩ := h
  obtain ⟨ao, l, cap, hcs, h1, h2, h3, h4⟩ := tread_faults hf
  have := lng_le Try.underlying22 bytes_fault h4 hw
  exact ⟨ao, l, cap, by simpa [Value.cells] using hcs, by omega, h1, h2, h3⟩
theorem open_bools (hs : (DataW.weightsEach Try.prog ts ds).all (· ≤ reachBytes) = true) (ht : ts[j]? = some 42) (hd : ds[j]? = some d)
    (hval : Value.okWide Try.prog W .any base 42 v) (h : DataW.Trod enc Try.prog W 0 (fun _ => true) true 42 v d p) :
    ∃ (ao : Option Addr) (l : List Bool) (cap : Nat), v = .slice ao l.length cap ∧ l.length ≤ 140737488351232 ∧ l.length ≤ cap ∧ (ao = none → cap = 0) ∧ Bo W ao l := by
  have hw := weights_all hs ht hd
  obtain ⟨a0, len, c0, rfl⟩ := okWide_slice Try.underlying42 hval
  obtain ⟨fuel, hf⟩ := h
  obtain ⟨ao, l, cap, hcs, h1, h2, h3, h4⟩ := tread_bools hf
  have := lng_le Try.underlying42 bytes_bool h4 hw
  exact ⟨ao, l, cap, by simpa [Value.cells] using hcs, by omega, h1, h2, h3⟩
end
end
end Go.Proofs.Ytkndlpihhfjcpaa
