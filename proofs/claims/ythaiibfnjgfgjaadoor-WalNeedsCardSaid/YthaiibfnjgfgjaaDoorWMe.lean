/- Open. A log that is safe, over a device that refuses nothing: what its calls do, as facts for the walks of the laws. No program in sight but the bounds of the contracts. The calls that every law of the log makes first. The document's example: what first asks. -/
import Derived.Test.YthaiibfnjgfgjaaDoorWMd
import Derived.Test.YthaiibfnjgfgjaaDoorWMt
import Derived.Test.YthaiibfnjgfgjaaDoorBagKey
import Derived.LoopTactic
import Derived.Lib.SmallJoins
namespace Go.Proofs.YthaiibfnjgfgjaaDoor
open Go.RowKit
namespace Wl
theorem results_tmp4 {fn : Func} {t u v x : Tmp} (h : fn.results = #[.tmp t, .tmp u, .tmp v, .tmp x]) (tmps : Array Value) (P : Program) (w : World) : (results fn tmps).run P w = .ok (.tuple #[tmps.getD t undef, tmps.getD u undef, tmps.getD v undef, tmps.getD x undef]) w := by
  simp [results, h]
theorem bodyPostM_ret {n : Nat} {P : Program} {fn : Func} {R : Ending → World → Prop} {a : Act} {w : World} {v : Value} (hr : (results fn a.tmps).run P w = .ok v w) (hx : a.defers = []) (hR : R (.returned v) w) : bodyPostM Fence.wide n P fn R .ret a w := by
  show LeavesInM Fence.wide n P fn a.tmps R a.defers .returning w
  rw [hx]
  exact ⟨v, hr, hR⟩
theorem bodyPostM_mark {n : Nat} {P : Program} {fn : Func} {R : Ending → World → Prop} {a : Act} {w : World} {v : Value} {df : Nat} (hK : w.heap[df]? = some (.deferred (some []))) (hx : a.defers = [{ target := .collected df, args := #[] }]) (hr : (results fn a.tmps).run P (w.putObj df (.deferred none)) = .ok v (w.putObj df (.deferred none))) (hR : R (.returned v) (w.putObj df (.deferred none))) : bodyPostM Fence.wide n P fn R .ret a w := by
  show LeavesInM Fence.wide n P fn a.tmps R a.defers .returning w
  rw [hx]
  exact ⟨by simp, .inl ⟨_, _, rfl, run_takeDeferred hK, v, hr, hR⟩⟩
theorem wp_rangeFunc {P : Program} {g : Operand} {ps : Array Tmp} {assign body : Code} {Q : Exit → Act → World → Prop} {a : Act} {W : World} {F1 : Nat} {lb : Array Value} (hg : a.eval g = .func (.func F1) #[] lb) (eg : ∀ args w, (callFunc F1 args).run P w = .ok (.enter F1 args) w)
    (h : ∀ (fn : FuncId) (l df : Nat), df + 1 = l → W.heap.size = df → Calls P F1 (#[.func (.yield l) #[] #[]] ++ lb) ((W.alloc (.deferred (some []))).alloc (.loop { state := .ready, pending := none, fn := fn, tmps := a.tmps, params := ps, assign := assign, body := body, defers := df })) (rangePost Fence.wide 5 P l Q { a with defers := [{ target := .collected df, args := #[] }] ++ a.defers })) :
    (Code.rangeFunc g ps assign body).wp P Q a W := by
  refine (wpIn_wide (n := 5)).1 (wpIn_rangeFunc ?_)
  intro fn _
  refine ⟨W.heap.size + 1, [{ target := .collected W.heap.size, args := #[] }], (W.alloc (.deferred (some []))).alloc (.loop { state := .ready, pending := none, fn := fn, tmps := a.tmps, params := ps, assign := assign, body := body, defers := W.heap.size }), { target := .fn (.func F1) lb, args := #[.func (.yield (W.heap.size + 1)) #[] #[]] }, (W.alloc (.deferred (some []))).alloc (.loop { state := .ready, pending := none, fn := fn, tmps := a.tmps, params := ps, assign := assign, body := body, defers := W.heap.size }), F1, #[.func (.yield (W.heap.size + 1)) #[] #[]] ++ lb, (W.alloc (.deferred (some []))).alloc (.loop { state := .ready, pending := none, fn := fn, tmps := a.tmps, params := ps, assign := assign, body := body, defers := W.heap.size }), ?_, ?_, ?_, ?_, fun _ => by decide, ?_⟩
  · exact run_enterLoop_outer _ _ _ _ _
  · simp only [resolve, hg]
    simp [go_sem]
  · intro f' hf'
    exact trivial
  · simp [invoke, go_sem, eg]
  · exact callsIn_wide.2 (h fn _ _ rfl rfl)
theorem loopObj {w W : World} {r : List It} (h : Bag w W r) (fn : FuncId) (T0 : Array Value) (ps : Array Tmp) (assign body : Code) {l df : Nat} (hl : df + 1 = l) (hdf : W.heap.size = df) : Bag w ((W.alloc (.deferred (some []))).alloc (.loop { state := .ready, pending := none, fn := fn, tmps := T0, params := ps, assign := assign, body := body, defers := df })) (.obj l (.loop { state := .ready, pending := none, fn := fn, tmps := T0, params := ps, assign := assign, body := body, defers := df }) :: .obj df (.deferred (some [])) :: r) := by
  subst hl; subst hdf
  have h2 := (h.obj (.deferred (some []))).obj (.loop { state := .ready, pending := none, fn := fn, tmps := T0, params := ps, assign := assign, body := body, defers := W.heap.size })
  rw [World.size_alloc] at h2
  exact h2
theorem dkl_ins {w W : World} {p : Nat} {L : Lay} {D : Dk} {r : List It} (xs : List It) (h : Bag w W (xs ++ dkl p L D r)) : Bag w W (dkl p L D (xs ++ r)) :=
  h.perm (List.perm_append_comm_assoc xs (dkl p L D []) r)
theorem bag_right {w W : World} {A r : List It} (h : Bag w W (A ++ r)) : Bag w W r := by
  obtain ⟨h1, h2, h3, h4⟩ := bag_iff.1 h
  exact bag_iff.2 ⟨h1, fun x hx => h2 x (by simp [hx]), fun x hx => h3 x (by simp [hx]), (List.pairwise_append.1 h4).2.1⟩
theorem dkl_drop {w W : World} {p : Nat} {L : Lay} {D : Dk} {r : List It} (xs : List It) (h : Bag w W (dkl p L D (xs ++ r))) : Bag w W (dkl p L D r) :=
  bag_right (A := xs) (h.perm (List.perm_append_comm_assoc xs (dkl p L D []) r).symm)
theorem wAll1' (w W : World) (p wb B l : Nat) (L : Lay) (D : Dk) (its : List It) (K : List By → List It → Prop) (m n ep sq pc rm : Nat) (T : Wk) (hrm : roomN n = rm) (hTe : walkP rm ep (rm - pc) pc pc sq [] 0 true [] D = T) (hY : Taker w l K) (hK : K [] its) (hn : D.ls.length = n) (hn0 : 32 ≤ n) (hn1 : n ≤ 8192)
   (hw : D.Wf m) (hm : m ≤ 300000000000) (hf : D.fs.length ≤ 1000000000000000) (he : ep ≤ mq) (hq : sq ≤ mq) (hpc : pc ≤ rm) (ht : Tab w) (hT : 0 < w.heap.size)
   (hB : Bag w W (dkl p L D (.box wb #[.pointer (some ⟨p, 0, none⟩), .int .i64 (rm : Nat), .int .i64 (ep : Nat), .int .i64 (sq : Nat), .int .i64 (pc : Nat), .int .i64 0] 96 :: .box B #[.pointer (some ⟨wb, 0, none⟩)] 94 :: its))) :
   Calls Tryd.prog 68 #[.func (.yield l) #[] #[], .pointer (some ⟨B, 0, none⟩)] W (AllR w p wb B rm ep K T) := by
  subst hrm
  have h := wAll1 w W p wb B l L D its K m n ep sq pc hY hK hn hn0 hn1 hw hm hf he hq hpc ht hT hB
  rw [hTe] at h
  exact h
theorem wAll (w : World) (wb : Nat) : Calls Tryd.prog 54 #[.pointer (some ⟨wb, 0, none⟩)] w fun e w' => e = .returned (.func (.func 68) #[] #[.pointer (some ⟨w.heap.size, 0, none⟩)]) ∧ w' = w.alloc (.cells #[.pointer (some ⟨wb, 0, none⟩)] 94 (0, 0)) := by
  go_enter Tryd.func54, Tryd.ntmps54
  go_wp2
  go_ret
  exact ⟨rfl, rfl⟩
theorem Sm.wf {k m : Nat} {D D' : Dk} (h : Sm k D D') (hw : D.Wf m) : D'.Wf (m + k) := by
  obtain ⟨h1, h2, h3, h4, h5, h6, h7, h8⟩ := hw
  refine ⟨by rw [h.ls]; exact h1, by rw [h.ls]; exact h2, by rw [h.ls]; exact h3, by rw [h.ps, h.ls]; exact h4, by rw [h.ps]; omega, by have := h.done; omega, by rw [h.claim]; omega, by rw [h.fs]; exact h8⟩
theorem countsP_ok {b : By} {i n room : Nat} {s : Sup} (hr : room ≤ 4095) (h : countsP b i n room = some s) : s.Ok room := by
  unfold countsP at h
  split at h
  · rename_i hc
    simp only [Option.some.injEq] at h
    subst h
    unfold countsO at hc
    simp only [Bool.and_eq_true, beq_iff_eq, decide_eq_true_eq] at hc
    obtain ⟨h0, h1, h2, h3, h4, h5, h6, h7⟩ := hc
    obtain ⟨S, hS⟩ := Option.isSome_iff_exists.1 h0
    obtain ⟨m1, ⟨m2, m3⟩, ⟨m4, m5⟩, ⟨m6, m7⟩, m8⟩ := may_iff.1 (getS_spec hS).1
    have hv := (getV_some hS).1
    refine ⟨hr, h7, h6, ?_, ?_, ?_, ?_⟩
    · show 1 ≤ (getV b).epoch.toNat; rw [hv]; omega
    · show (getV b).epoch.toNat ≤ mq; rw [hv]; unfold mq; omega
    · show 1 ≤ (getV b).seq.toNat; rw [hv]; omega
    · show (getV b).seq.toNat ≤ mq; rw [hv]; unfold mq; omega
  · cases h
theorem foundP_ok (D : Dk) {n room : Nat} (hr : room ≤ 4095) : (foundP D n room).l.length ≤ 2 ∧ ∀ s ∈ (foundP D n room).l, s.Ok room := by
  unfold foundP
  split
  · split
    · show (orderL _ _).length ≤ 2 ∧ ∀ s ∈ orderL _ _, s.Ok room
      have k1 : ∀ s, countsP (D.readB 0) 0 n room = some s → s.Ok room := fun s h => countsP_ok hr h
      have k2 : ∀ s, countsP ((D.readD 0).readB 1) 1 n room = some s → s.Ok room := fun s h => countsP_ok hr h
      generalize countsP (D.readB 0) 0 n room = x at k1 ⊢
      generalize countsP ((D.readD 0).readB 1) 1 n room = y at k2 ⊢
      cases x <;> cases y <;> unfold orderL
      · simp
      · simp; exact k2 _ rfl
      · simp; exact k1 _ rfl
      · dsimp only
        split <;> simp [k1 _ rfl, k2 _ rfl]
    · simp
  · simp
theorem supCells_get (xs : List Sup) : ∀ (i : Nat) (s : Sup), xs[i]? = some s → ∀ j, j < 5 → (supCells xs)[i * 5 + j]? = s.cells[j]? := by
  induction xs with
  | nil => intro i s h; simp at h
  | cons a r ih =>
    intro i s h j hj
    have e : supCells (a :: r) = a.cells ++ supCells r := by simp [supCells]
    have hl : a.cells.length = 5 := rfl
    match i with
    | 0 =>
      simp at h; subst h
      rw [e, List.getElem?_append_left (by rw [hl]; omega)]
      simp
    | i + 1 =>
      rw [e, List.getElem?_append_right (by rw [hl]; omega), hl, show (i + 1) * 5 + j - 5 = i * 5 + j by omega]
      exact ih i s (by simpa using h) j hj
/-- What Open hands out, and how the device and the log lie then. -/
def OpR (w : World) (p : Nat) (rest : List It) (R : Res) (e : Ending) (W' : World) : Prop :=
  (R.e ≠ 0 ∧ ∃ L', e = .returned (.tuple #[.pointer none, .slice none 0 0, .slice none 0 0, .int .i64 R.e]) ∧ Bag w W' (dkl p L' R.D rest)) ∨
  (R.e = 0 ∧ ∃ (L' : Lay) (lp : Nat) (ao : Option Addr) (cs : Nat) (tv : Value) (ts : List Tx), e = .returned (.tuple #[.pointer (some ⟨lp, 0, none⟩), .slice ao R.s.length cs, tv, .int .i64 0]) ∧ ts.map Tx.b = R.txs ∧ Bag w W' (wl p L' R.D lp R.l (.mine 5 ao cs R.s :: .lst 29 1 tv ts.length (ts.map Tx.v) :: (ts.map Tx.it ++ rest))))
theorem openFrom_cons (room claim : Nat) (s : Sup) (r : List Sup) (D : Dk) : openFrom room claim (s :: r) D =
    if (stateP room s s.pieces 0 [] D).e = 0 then
      if (stateP room s s.pieces 0 [] D).ok then ((stateP room s s.pieces 0 [] D).wk room s).res room claim s.epoch (stateP room s s.pieces 0 [] D).b
      else openFrom room claim r (stateP room s s.pieces 0 [] D).D
    else ⟨(stateP room s s.pieces 0 [] D).D, (stateP room s s.pieces 0 [] D).e, .nil, [], []⟩ := rfl
set_option maxRecDepth 100000 in
set_option maxHeartbeats 8000000 in
theorem wOpen (w W : World) (p : Nat) (L : Lay) (D : Dk) (rest : List It) (m n : Nat) (hn : D.ls.length = n) (hn0 : 32 ≤ n) (hn1 : n ≤ 8192)
   (hw : D.Wf m) (hm : m ≤ 200000000000) (hf : D.fs.length ≤ 1000000000000000) (ht : Tab w) (hT : 0 < w.heap.size) (hB : Bag w W (dkl p L D rest)) :
   Calls Tryd.prog 30 #[.pointer (some ⟨p, 0, none⟩)] W (OpR w p rest (openP D)) := by
  have hcl := dkClaim (show D.claim ≤ 1000000000000000 by have := hw.claims; omega) hB
  obtain ⟨R, hR⟩ : ∃ R, openP D = R := ⟨_, rfl⟩
  rw [hR]
  unfold openP at hR
  rw [hn] at hR
  have hrm : roomN n ≤ 4095 := by unfold roomN; omega
  obtain ⟨D1, hD1⟩ : ∃ D1, D.claimD = D1 := ⟨_, rfl⟩
  have hw1 : D1.Wf (m + 1) := by rw [← hD1]; exact hw.take
  have hn2 : D1.ls.length = n := by rw [← hD1]; exact hn
  have hf1 : D1.fs = D.fs := by rw [← hD1]; rfl
  obtain ⟨cl, hcle⟩ : ∃ cl, D.claim + 1 = cl := ⟨_, rfl⟩
  have hcl1 : D1.claim = cl := by rw [← hD1, ← hcle]; rfl
  unfold ClaimR at hcl
  rw [hD1, hcl1] at hcl
  rw [hD1, hcle] at hR
  have hsm := (foundP_sm D1 n (roomN n) (by omega)).1
  have hok := foundP_ok D1 (n := n) hrm
  obtain ⟨⟨D2, e2, xs⟩, hF⟩ : ∃ F, foundP D1 n (roomN n) = F := ⟨_, rfl⟩
  have hfo := fun (U : World) (L1 : Lay) (hB : Bag w U (dkl p L1 D1 rest)) => wFound w U p L1 D1 rest (m + 1) n hn2 hn0 hn1 hw1 (by omega) (by rw [hf1]; exact hf) ht hT hB
  rw [hF] at hR hsm hok hfo
  simp only at hR hsm hok
  unfold FndR at hfo
  simp only at hfo
  have hw2 := hsm.wf hw1
  have hn3 : D2.ls.length = n := by rw [hsm.ls]; exact hn2
  have hf2 : D2.fs = D.fs := by rw [hsm.fs]; exact hf1
  obtain ⟨rm, hrme⟩ : ∃ rm, roomN n = rm := ⟨_, rfl⟩
  rw [hrme] at hR hrm hok
  have HRM := Lib.hid hrme
  have HR := Lib.hid hR
  have HFO := Lib.hid hfo
  have HCL := Lib.hid hcl
  have HW2 := Lib.hid hw2
  have HN2 := Lib.hid hn2
  have HN3 := Lib.hid hn3
  have HF2 := Lib.hid hf2
  have HT := Lib.hid (And.intro ht hT)
  have hxl := hok.1
  have HOK := Lib.hid hok.2
  have HWC := Lib.hid (show cl ≤ m + 1 by rw [← hcle]; have := hw.claims; omega)
  clear hR hcl hD1 hcle hcl1 hF hsm hok hfo hw1 hw2 hn2 hn3 hf1 hf2 hrme hw ht hT hB hn
  refine (callsIn_wide (n := 5)).1 (callsIn_of_wp_marks (F := Fence.wide) Tryd.func30 rfl trivial ?_)
  refine (wpIn_wide (n := 5)).2 ?_
  simp only [Tryd.ntmps30, List.size_toArray, List.length_cons, List.length_nil, Nat.reduceAdd, Nat.reduceSub, Array.replicate_succ, Array.replicate_zero, List.push_toArray, List.append_toArray, List.nil_append, List.cons_append]
  go_wp2_with fail
  refine HCL.out.mono ?_
  rintro e W1 ⟨rfl, hB1⟩
  have HB1 := Lib.hid hB1
  clear hB1 HCL
  have hro := wRoom0 (by rw [HN2.out]; exact hn0) (by rw [HN2.out]; exact hn1) HB1.out
  rw [HN2.out, HRM.out] at hro
  have HRO := Lib.hid hro
  clear hro
  go_wp2_with fail
  refine HRO.out.mono ?_
  clear HRO
  rintro e w' ⟨rfl, hw⟩
  obtain rfl := hw
  have hfo := HFO.out W1 _ HB1.out
  rw [HRM.out] at hfo
  have HFO2 := Lib.hid hfo
  clear hfo HFO
  go_wp2_with fail
  refine HFO2.out.mono ?_
  clear HFO2
  rintro e W2 ⟨L2, v2, rfl, hB2⟩
  have HB2 := Lib.hid hB2
  clear hB2 HB1
  by_cases he2 : e2 = 0
  · subst he2
    have HR2 := Lib.hid ((if_pos rfl).symm.trans HR.out)
    clear HR
    obtain ⟨av, cv, rfl, hcv, _⟩ := HB2.out.formN 0 rfl
    go_wp2_with fail
    go_loopw [33] (fun t wr => ∃ (i : Nat) (D' : Dk) (L' : Lay), i ≤ xs.length ∧ t = .int .i64 i ∧ D'.Wf (m + 1 + 2 + 4096 * i) ∧ D'.ls.length = n ∧ D'.fs = D.fs ∧ openFrom rm cl (xs.drop i) D' = R ∧ Bag w wr (.lst 91 5 (.slice av xs.length cv) xs.length (supCells xs) :: dkl p L' D' rest)) (fun t _ => xs.length - (intOf t).toNat)
    case atStart => exact ⟨0, D2, L2, Nat.zero_le _, rfl, HW2.out, HN3.out, HF2.out, HR2.out, HB2.out⟩
    case round =>
      obtain ⟨i, D', L', hi, rfl, hW, hDn, hF, hP, hB⟩ := hrel
      clear HB2 HR2 HW2
      have HB := Lib.hid hB
      have HW := Lib.hid hW
      have HN := Lib.hid hDn
      have HF := Lib.hid hF
      have HP := Lib.hid hP
      clear hB hW hDn hF hP
      by_cases hlt : i < xs.length
      · obtain ⟨s, hs⟩ : ∃ s, xs[i]? = some s := ⟨xs[i], List.getElem?_eq_getElem hlt⟩
        have hso := HOK.out s (List.mem_of_getElem? hs)
        have hdr : xs.drop i = s :: xs.drop (i + 1) := by
          rw [List.drop_eq_getElem_cons hlt]
          rw [List.getElem?_eq_getElem hlt] at hs
          simp only [Option.some.injEq] at hs
          rw [hs]
        have hstep := HP.out
        rw [hdr, openFrom_cons] at hstep
        have hsm := (stateP_sm hn0 s s.pieces 0 [] D' HN.out (by have := hso.fit; rw [HRM.out]; omega)).1
        have hst := fun (u : World) (L1 : Lay) (r : List It) (hB : Bag w u (dkl p L1 D' r)) => wSt w u p L1 D' r (m + 1 + 2 + 4096 * i) n s (by rw [HRM.out]; exact hso) HN.out hn0 hn1 HW.out (by omega) (by rw [HF.out]; exact hf) HT.out.1 HT.out.2 hB
        obtain ⟨⟨tD, te, tok, st⟩, hTe⟩ : ∃ t, stateP rm s s.pieces 0 [] D' = t := ⟨_, rfl⟩
        rw [HRM.out, hTe] at hsm hst
        rw [hTe] at hstep
        unfold StR at hst
        simp only at hsm hst hstep
        have hWt := hsm.wf HW.out
        have hNt : tD.ls.length = n := by rw [hsm.ls]; exact HN.out
        have hFt : tD.fs = D.fs := by rw [hsm.fs]; exact HF.out
        have hcells := supCells_get xs i s hs
        obtain ⟨s0, s1, s2, s3, s4⟩ := s
        obtain ⟨N, hNs⟩ : ∃ N, st.length = N := ⟨_, rfl⟩
        unfold Sup.val at hst
        rw [hNs] at hst
        simp only at hst hWt hso hstep
        have hfit := hso.fit
        have he0 := hso.e1
        have hq0 := hso.q1
        simp only at hfit he0 hq0
        unfold mq at he0 hq0
        obtain ⟨g, cp, hv, hcp, hat, hfr⟩ := HB.out.atN 0 rfl (by omega)
        obtain ⟨rfl, rfl⟩ : av = some ⟨g, 0, none⟩ ∧ cv = cp := by cases hv; exact ⟨rfl, rfl⟩
        have c0 : wr.cell? ⟨g, i * 5, none⟩ = some (.int .i64 (s0 : Nat)) := (hat (i * 5) (by omega)).trans (hcells 0 (by omega))
        have c1 : wr.cell? ⟨g, i * 5 + 1, none⟩ = some (.int .i64 (s1 : Nat)) := (hat (i * 5 + 1) (by omega)).trans (hcells 1 (by omega))
        have c2 : wr.cell? ⟨g, i * 5 + 2, none⟩ = some (.int .i64 (s2 : Nat)) := (hat (i * 5 + 2) (by omega)).trans (hcells 2 (by omega))
        have c3 : wr.cell? ⟨g, i * 5 + 3, none⟩ = some (.int .i64 (s3 : Nat)) := (hat (i * 5 + 3) (by omega)).trans (hcells 3 (by omega))
        have c4 : wr.cell? ⟨g, i * 5 + 4, none⟩ = some (.int .u32 (n32 s4)) := (hat (i * 5 + 4) (by omega)).trans (hcells 4 (by omega))
        have HBd := Lib.hid (dkl_in HB.out)
        have HST := Lib.hid hst
        have HSTEP := Lib.hid hstep
        have HWT := Lib.hid hWt
        have HNT := Lib.hid hNt
        have HFT := Lib.hid hFt
        have HNS := Lib.hid hNs
        have HSO := Lib.hid hso
        have HBD := Lib.hid (And.intro he0 hq0)
        clear hst hstep hWt hNt hFt hNs hso hsm hTe hdr hs hcells hat hv HB HW HP HN HF he0 hq0
        go_wp2_with fail
        generalize hU : wr.alloc (.cells #[.int .i64 (s0 : Nat), .int .i64 (s1 : Nat), .int .i64 (s2 : Nat), .int .i64 (s3 : Nat), .int .u32 (n32 s4)] 91 (0, 0)) = U
        generalize hq : wr.heap.size = q
        have HB3 := Lib.hid (show Bag w U (dkl p L' D' (.box q #[.int .i64 (s0 : Nat), .int .i64 (s1 : Nat), .int .i64 (s2 : Nat), .int .i64 (s3 : Nat), .int .u32 (n32 s4)] 91 :: .lst 91 5 (.slice (some ⟨g, 0, none⟩) xs.length cv) xs.length (supCells xs) :: rest)) by rw [← hU]; exact dkl_in (HBd.out.allocAt _ _ q hq))
        clear hU hq HBd c0 c1 c2 c3 c4 hfr
        refine (HST.out U L' _ HB3.out).mono ?_
        clear HST
        rintro e W3 ⟨L3, sa, cs, rfl, hB4⟩
        have HB4 := Lib.hid hB4
        clear hB4 HB3
        by_cases hte : te = 0
        · subst hte
          have HSTEP2 := Lib.hid ((if_pos rfl).symm.trans HSTEP.out)
          clear HSTEP
          cases tok with
          | false =>
            have HNX := Lib.hid ((if_neg (by simp)).symm.trans HSTEP2.out)
            clear HSTEP2
            go_wp2_with fail
            go_roundw
            case rel => exact ⟨i + 1, tD, L3, by omega, by go_num, HWT.out.mono (by omega), HNT.out, HFT.out, HNX.out, dkl_out (dkl_out HB4.out.tail).tail⟩
            case measure => simp [intOf]; omega
          | true =>
            have HNX := Lib.hid ((if_pos rfl).symm.trans HSTEP2.out)
            clear HSTEP2
            obtain ⟨q0, q1, q2, q3, q4, qf⟩ := cells5 (HB4.out.box 7 rfl)
            have ql := HB4.out.boxLt 7 rfl
            go_wp2_with fail
            have HB5 := Lib.hid (show Bag w W3 (.lst 29 1 (.slice none 0 0) 0 [] :: dkl p L3 tD (.mine 5 sa cs st :: rest)) from (show Bag w W3 (dkl p L3 tD (.mine 5 sa cs st :: rest)) from ((dkl_in HB4.out).erase 7).erase 7).nil _ _)
            clear q0 q1 q2 q3 q4 qf ql HB4
            generalize hwb : W3.heap.size = wb
            obtain ⟨tb, htb⟩ : ∃ tb, wb + 1 = tb := ⟨_, rfl⟩
            rw [htb]
            generalize hU4 : (W3.alloc (.cells #[.pointer (some ⟨p, 0, none⟩), .int .i64 (rm : Nat), .int .i64 (s0 : Nat), .int .i64 (s1 : Nat), .int .i64 (s2 : Nat), .int .i64 0] 96 (0, 0))).alloc (.cells #[.slice none 0 0] 39 (0, 0)) = W4
            have HB6 := Lib.hid (show Bag w W4 (.box tb #[.slice none 0 0] 39 :: .box wb #[.pointer (some ⟨p, 0, none⟩), .int .i64 (rm : Nat), .int .i64 (s0 : Nat), .int .i64 (s1 : Nat), .int .i64 (s2 : Nat), .int .i64 0] 96 :: .lst 29 1 (.slice none 0 0) 0 [] :: dkl p L3 tD (.mine 5 sa cs st :: rest)) by rw [← hU4]; exact (HB5.out.allocAt _ _ wb hwb).allocAt _ _ tb (by rw [World.size_alloc, hwb, htb]))
            clear hU4 hwb htb HB5
            refine (wAll W4 wb).mono ?_
            rintro e w' ⟨rfl, hw⟩
            obtain rfl := hw
            generalize hBb : W4.heap.size = B
            generalize hU5 : W4.alloc (.cells #[.pointer (some ⟨wb, 0, none⟩)] 94 (0, 0)) = W5
            have HB7 := Lib.hid (show Bag w W5 (.box B #[.pointer (some ⟨wb, 0, none⟩)] 94 :: .box tb #[.slice none 0 0] 39 :: .box wb #[.pointer (some ⟨p, 0, none⟩), .int .i64 (rm : Nat), .int .i64 (s0 : Nat), .int .i64 (s1 : Nat), .int .i64 (s2 : Nat), .int .i64 0] 96 :: .lst 29 1 (.slice none 0 0) 0 [] :: dkl p L3 tD (.mine 5 sa cs st :: rest)) by rw [← hU5]; exact HB6.out.allocAt _ _ B hBb)
            clear hU5 hBb HB6
            obtain ⟨T, hT⟩ : ∃ T, walkP rm s0 (rm - s2) s2 s2 s1 [] 0 true [] tD = T := ⟨_, rfl⟩
            have HNX2 := Lib.hid (show T.res rm cl s0 st = R by rw [← hT]; exact HNX.out)
            have HTE := Lib.hid hT
            clear hT HNX
            go_wp2_with fail
            refine wp_rangeFunc (F1 := 68) (lb := #[.pointer (some ⟨B, 0, none⟩)]) rfl (fun _ _ => rfl) ?_
            intro fn l df hl hdf
            refine (wAll1' w _ p wb B l L3 tD _ _ (m + 1 + 2 + 4096 * i + s2) n s0 s1 s2 rm T HRM.out HTE.out (openTaker w fn l df tb (.mine 5 sa cs st :: rest)) ⟨.slice none 0 0, [], rfl, rfl⟩ HNT.out hn0 hn1 HWT.out (by omega) (by rw [HFT.out]; exact hf) HBD.out.1 HBD.out.2 (by omega) HT.out.1 HT.out.2 (dkl_ins [_, _, _, _, _, _] (((loopObj HB7.out fn _ _ _ _ hl hdf).front (i := 2) rfl).front (i := 4) rfl))).mono ?_
            rintro e W7 ⟨⟨v, rfl⟩, L7, its7, ⟨tv, ts, hts, rfl⟩, hB7⟩
            obtain ⟨TD, Te, Tp, Tq, Ttx⟩ := T
            simp only at hts hB7
            have hnx := HNX2.out
            unfold Wk.res at hnx
            simp only at hnx
            have HB10 := Lib.hid hB7
            have HTS := Lib.hid hts
            have HNX := Lib.hid hnx
            clear hB7 hts hnx HNX2 HTE HB7
            have hl7 := HB10.out.objAt 8 rfl
            refine ⟨none, _, run_endLoop hl7 (by intro h; cases h), ?_⟩
            generalize hW8 : W7.putObj l _ = W8
            have HB11 := Lib.hid (show Bag w W8 (dkl p L7 TD (.box wb #[.pointer (some ⟨p, 0, none⟩), .int .i64 (rm : Nat), .int .i64 (s0 : Nat), .int .i64 (Tq : Nat), .int .i64 (Tp : Nat), .int .i64 Te] 96 :: .box B #[.pointer (some ⟨wb, 0, none⟩)] 94 :: .obj df (.deferred (some [])) :: .box tb #[tv] 39 :: .lst 29 1 tv ts.length (ts.map Tx.v) :: (ts.map Tx.it ++ .mine 5 sa cs st :: rest))) by rw [← hW8]; exact (HB10.out.putObj 8 rfl _).erase 8)
            clear hW8 hl7 HB10 hl hdf
            obtain ⟨c0, c1, c2, c3, c4, c5, cf⟩ := cells6 (HB11.out.box 6 rfl)
            have wl := HB11.out.boxLt 6 rfl
            obtain ⟨d0, df0⟩ := cells1 (HB11.out.box 9 rfl)
            have tl := HB11.out.boxLt 9 rfl
            dsimp only
            by_cases hTe0 : Te = 0
            · subst hTe0
              have HG := Lib.hid ((if_pos rfl).symm.trans HNX.out)
              clear HNX
              go_wp2_with fail
              go_region_held3 (fun w' => w'.cell? ⟨wb, 2, none⟩ = some (.int .i64 (s0 : Nat)) ∧ w'.cell? ⟨wb, 3, none⟩ = some (.int .i64 (Tq : Nat)) ∧ w'.cell? ⟨wb, 4, none⟩ = some (.int .i64 (Tp : Nat)) ∧ w'.cell? ⟨tb, 0, none⟩ = some tv) (((try simp only [cell_drew]); (try simp only [cell_alloc_old _ _ _ _ wl, cell_alloc_old _ _ _ _ tl]); (try simp only [cell_drew]); (refine ⟨?_, ?_, ?_, ?_⟩ <;> with_reducible assumption))) (fail)
              all_goals
                go_wp2_with fail
                generalize hlp : W8.heap.size = lp
                have HF := Lib.hid ((HB11.out.allocAt #[.pointer (some ⟨p, 0, none⟩), .int .i64 (cl : Nat), .int .i64 (rm : Nat), .int .i64 (s0 : Nat), .int .i64 (Tq : Nat), .int .i64 (Tp : Nat), .bool false, .bool false] 78 lp hlp).drew)
                refine bodyPostM_mark (HF.out.objAt 9 rfl) rfl (results_tmp4 rfl _ _ _) (Or.inr ⟨by rw [← HG.out], L7, lp, sa, cs, tv, ts, ?_, ?_, ?_⟩)
                · rw [← HG.out]
                  show _ = Ending.returned (.tuple #[_, .slice sa st.length cs, _, _])
                  rw [HNS.out] <;> rfl
                · rw [← HG.out]; exact HTS.out
                · rw [← HG.out]
                  have h5 := HF.out.putObj 9 rfl (.deferred none)
                  have h6 := ((((dkl_in h5).erase 7).erase 7).erase 7).erase 7
                  exact (show Bag w _ (dkl p L7 TD [lgb lp p ⟨rm, cl, s0, Tq, Tp, false, false⟩] ++ (.lst 29 1 tv ts.length (ts.map Tx.v) :: (ts.map Tx.it ++ .mine 5 sa cs st :: rest))) from h6).perm (((List.perm_middle.cons _).trans (List.Perm.swap _ _ _)).append_left _)
            · have HG := Lib.hid ((if_neg hTe0).symm.trans HNX.out)
              have hxb : (Te != 0) = true := by rw [bne_iff_ne]; exact hTe0
              have HE := Lib.hid hTe0
              clear HNX hTe0
              go_wp2_with fail
              go_quiet (fail)
              go_wp2_with fail
              have HF := Lib.hid (HB11.out.drewN nq)
              refine bodyPostM_mark (HF.out.objAt 8 rfl) rfl (results_tmp4 rfl _ _ _) (Or.inl ⟨by rw [← HG.out]; exact HE.out, L7, ?_, ?_⟩)
              · rw [← HG.out] <;> rfl
              · rw [← HG.out]
                exact (dkl_drop [_] (dkl_drop (ts.map Tx.it) (dkl_drop [_, _, _, _, _] (HF.out.putObj 8 rfl (.deferred none)))))
        · have HG := Lib.hid ((if_neg hte).symm.trans HSTEP.out)
          have hxb : (te != 0) = true := by rw [bne_iff_ne]; exact hte
          have HTE := Lib.hid hte
          clear HSTEP hte
          go_wp2_with fail
          refine bodyPostM_ret (results_tmp4 rfl _ _ _) rfl (Or.inl ⟨by rw [← HG.out]; exact HTE.out, L3, ?_, ?_⟩)
          · rw [← HG.out] <;> rfl
          · rw [← HG.out]; exact (dkl_out (dkl_out HB4.out.tail).tail).tail
      · have HG := Lib.hid (show (⟨D', 110, .nil, [], []⟩ : Res) = R by
          have h := HP.out
          rw [List.drop_eq_nil_of_le (by omega)] at h
          exact h)
        go_wp2_with fail
        refine bodyPostM_ret (results_tmp4 rfl _ _ _) rfl (Or.inl ⟨by rw [← HG.out]; show (110 : Int) ≠ 0; decide, L', ?_, ?_⟩)
        · rw [← HG.out] <;> rfl
        · rw [← HG.out]; exact HB.out.tail
  · have HR2 := Lib.hid ((if_neg he2).symm.trans HR.out)
    have hxb : (e2 != 0) = true := by rw [bne_iff_ne]; exact he2
    have HE := Lib.hid he2
    clear HR he2
    go_wp2_with fail
    refine bodyPostM_ret (results_tmp4 rfl _ _ _) rfl (Or.inl ⟨by rw [← HR2.out]; exact HE.out, L2, ?_, ?_⟩)
    · rw [← HR2.out] <;> rfl
    · rw [← HR2.out]; exact HB2.out.tail
end Wl
end Go.Proofs.YthaiibfnjgfgjaaDoor
namespace Go.Proofs.YthaiibfnjgfgjaaDoor
open Go.RowKit
namespace Wl
theorem wrD_wfx {D : Dk} {m a : Nat} {S : Sec} (h : D.Wf m) : (wrD D a S).Wf (m + 1) := h.write _ _
theorem piecesP_wfx (room seq e pl : Nat) (b : By) : ∀ (k i m : Nat) (D : Dk), D.Wf m → (piecesP room seq e pl b k i D).1.Wf (m + k + 1)
  | 0, _, m, D, h => h.flush
  | k + 1, i, m, D, h => by
    unfold piecesP
    split
    · exact (piecesP_wfx room seq e pl b k (i + 1) (m + 1) _ (wrD_wfx h)).mono (by omega)
    · exact (wrD_wfx h).mono (by omega)
theorem lastP_wf {D : Dk} {m a : Nat} {S : Sec} (h : D.Wf m) : (lastP D a S).1.Wf (m + 2) := by
  unfold lastP
  split
  · exact (wrD_wfx h).flush
  · exact (wrD_wfx h).mono (by omega)
theorem appendP_wf {D : Dk} {l : Lg} {m : Nat} (h : D.Wf m) (tx : By) : (appendP D l tx).D.Wf (m + pcN tx.length + 4) := by
  have ha : (aheadP D l tx).1.Wf (m + pcN tx.length + 1) := by
    unfold aheadP
    split
    · exact piecesP_wfx _ _ _ _ _ _ _ _ _ h
    · exact h.mono (by omega)
  unfold appendP
  split
  · split
    · split
      · exact (lastP_wf ha).mono (by omega)
      · exact (lastP_wf ha).mono (by omega)
    · exact ha.mono (by omega)
  · exact h.mono (by omega)
theorem checkP_wf {D : Dk} {l : Lg} {m : Nat} (h : D.Wf m) (s : By) : (checkP D l s).D.Wf (m + pcN s.length + 4) := by
  have ha : (statesP D l s).1.Wf (m + pcN s.length + 1) := piecesP_wfx _ _ _ _ _ _ _ _ _ h
  unfold checkP
  split
  · split
    · split
      · exact (lastP_wf ha).mono (by omega)
      · exact (lastP_wf ha).mono (by omega)
    · exact ha.mono (by omega)
  · exact h.mono (by omega)
theorem safeP_wf {D : Dk} {l : Lg} {m : Nat} (h : D.Wf m) : (safeP D l).D.Wf (m + 1) := by
  unfold safeP
  split
  · exact h.mono (by omega)
  · split
    · exact h.mono (by omega)
    · exact h.flush
theorem zerosP_wf : ∀ (k i m : Nat) (D : Dk), D.Wf m → (zerosP k i D).1.Wf (m + k)
  | 0, _, m, D, h => h
  | k + 1, i, m, D, h => by
    unfold zerosP
    split
    · split
      · exact (zerosP_wf k (i + 1) (m + 1) _ (h.read _)).mono (by omega)
      · exact (h.read _).mono (by omega)
    · exact (h.read _).mono (by omega)
theorem formatP_wf {D : Dk} {m : Nat} (h : D.Wf m) : (formatP D).1.Wf (m + D.ls.length + 2) := by
  unfold formatP
  split
  · exact lastP_wf (zerosP_wf _ _ _ _ h)
  · exact (zerosP_wf _ _ _ _ h).mono (by omega)
theorem Opened.wf {D : Dk} {e q0 m : Nat} {s : By} {txs : List By} {R : Res} (h : Opened D e q0 s txs R) (hw : D.Wf m) : R.D.Wf (m + 4100) := by
  obtain ⟨h1, h2, h3, h4, h5, h6, h7, h8⟩ := hw
  refine ⟨by rw [h.ls]; exact h1, by rw [h.ls]; exact h2, by rw [h.ls]; exact h3, by rw [h.ps, h.ls]; exact h4, by rw [h.ps]; omega, ?_, by rw [h.claim]; omega, by rw [h.fs]; exact h8⟩
  have := h.done
  have h9 : roomN D.ls.length ≤ 4095 := roomN_le h2
  omega
/-- A log that is safe, over a device that refuses nothing. -/
structure Cur (n m c : Nat) (D : Dk) (l : Lg) (e q0 : Nat) (s : By) (txs : List By) : Prop where
  wf : D.Wf m
  quiet : Quiet D
  len : D.ls.length = n
  claim : D.claim = c
  calm : Calm D l e q0 s txs
section
variable {n m c e q0 : Nat} {D : Dk} {l : Lg} {s : By} {txs : List By}
theorem Cur.room (h : Cur n m c D l e q0 s txs) : l.room = roomN n := by rw [h.calm.lg, h.len]
theorem Cur.place (h : Cur n m c D l e q0 s txs) : l.place = nextP s txs := by rw [h.calm.lg]
theorem Cur.ok (h : Cur n m c D l e q0 s txs) (hc : c ≤ 1000000000000) : l.Ok := by
  have t := h.calm.tel
  have h8 := t.n8
  have hr := roomN_le h8
  have h1 := t.e0
  have h2 := t.eM
  have h3 := t.q1
  have h4 := t.qM
  have h5 := t.room
  rw [h.calm.lg]
  exact ⟨hr, h1, h2, by show 1 ≤ q0 + txs.length; omega, h4, h5, by show D.claim ≤ _; rw [h.claim]; exact hc⟩
theorem Cur.append (h : Cur n m c D l e q0 s txs) (tx : By) (h1 : 1 ≤ tx.length) (h2 : tx.length ≤ 4800) (hq : q0 + txs.length ≤ mq) (hfit : nextP s txs + needN tx.length ≤ roomN n) : (appendP D l tx).e = 0 ∧ Cur n (m + 20) c (appendP D l tx).D (appendP D l tx).l e q0 s (txs ++ [tx]) := by
  have hc := appendP_law h.calm tx hq
  have hno : ∀ z, ¬ noAppend l tx.length z := by
    rintro z (⟨hz, _⟩ | ⟨_, hz, _⟩)
    · have := need_pos h1 h2; omega
    · rw [h.room, h.place] at hz; omega
  obtain ⟨q1, q2, q3⟩ := hc.quiet h.quiet
  have hp : pcN tx.length ≤ 10 := by unfold pcN; omega
  rcases hc.res with ⟨_, _, hz⟩ | ⟨hz, _⟩ | ⟨he, _, hC, _⟩
  · exact absurd hz (hno _)
  · omega
  · exact ⟨he, (appendP_wf h.wf tx).mono (by omega), q1, hc.len.trans h.len, hc.claim.trans h.claim, hC⟩
theorem Cur.checkNo (h : Cur n m c D l e q0 s txs) (t : By) (hq : q0 + txs.length ≤ mq) (he : e < mq) (hno : roomN n < pcN t.length + 11) : checkP D l t = ⟨D, l, 112⟩ := by
  have hc := checkP_law h.calm t hq he
  obtain ⟨q1, q2, q3⟩ := hc.quiet h.quiet
  rcases hc.res with ⟨h1, _, _, hz⟩ | ⟨hz, _⟩ | ⟨_, hz, _⟩
  · rw [h1, hz]
  · omega
  · exact absurd ⟨by rw [h.room]; exact hno, rfl⟩ (hz 112)
theorem Cur.check (h : Cur n m c D l e q0 s txs) (t : By) (hq : q0 + txs.length ≤ mq) (he : e < mq) (hfit : pcN t.length + 11 ≤ roomN n) : (checkP D l t).e = 0 ∧ Cur n (m + 4100) c (checkP D l t).D (checkP D l t).l (e + 1) (q0 + txs.length) t [] := by
  have hc := checkP_law h.calm t hq he
  obtain ⟨q1, q2, q3⟩ := hc.quiet h.quiet
  have hr : roomN n ≤ 4095 := by have := h.calm.tel.n8; rw [h.len] at this; exact roomN_le this
  rcases hc.res with ⟨_, _, hz, _⟩ | ⟨hz, _⟩ | ⟨h0, _, hC, _⟩
  · rw [h.room] at hz; omega
  · omega
  · exact ⟨h0, (checkP_wf h.wf t).mono (by omega), q1, hc.len.trans h.len, hc.claim.trans h.claim, hC⟩
/-- Open behind a log that is calm. -/
theorem Cur.opens (h : Cur n m c D l e q0 s txs) : openP D = ⟨(openP D).D, 0, lgOf (roomN n) (c + 1) e q0 s txs, s, txs⟩ ∧ Quiet (openP D).D ∧ (openP D).D.ls = D.ls ∧ (openP D).D.ps = [] ∧ (openP D).D.claim = c + 1 ∧ (openP D).D.Wf (m + 4100) := by
  have hv : view D = D.ls := by unfold view; rw [h.calm.ps]; rfl
  have o := openP_tel (D := D) (e := e) (q0 := q0) (s := s) (txs := txs) (by rw [hv]; exact h.calm.tel)
  obtain ⟨o1, o2⟩ := o.quiet h.quiet
  refine ⟨?_, o1, o.ls, by rw [o.ps]; exact h.calm.ps, by rw [o.claim, h.claim], o.wf h.wf⟩
  rcases o.tells with o7 | o7
  · omega
  · rw [h.len, h.claim] at o7; exact o7
end
theorem safe_cur {n m c e q0 : Nat} {D : Dk} {s : By} {txs : List By} (hw : D.Wf m) (hq : Quiet D) (hn : D.ls.length = n) (hc : D.claim = c) (hp : D.ps = []) (hT : Tel D.ls e q0 s txs) : (safeP D (lgOf (roomN n) c e q0 s txs)).e = 0 ∧ Cur n (m + 1) c (safeP D (lgOf (roomN n) c e q0 s txs)).D (safeP D (lgOf (roomN n) c e q0 s txs)).l e q0 s txs := by
  have hv : view D = D.ls := by unfold view; rw [hp]; rfl
  have h := safeP_law (D := D) (e := e) (q0 := q0) (s := s) (txs := txs) (by rw [hv]; exact hT)
  rw [hn, hc] at h
  rcases h with ⟨h1, h2, h3⟩ | ⟨_, _, h3⟩
  · exact ⟨h1, safeP_wf hw, h3.quiet hq, by rw [h3.ls, view_len]; exact hn, h3.claim.trans hc, h2⟩
  · exact absurd hq h3
/-- A new device, formatted, opened, made safe. -/
theorem begunP {n : Nat} (h32 : 32 ≤ n) (h8 : n ≤ 8192) : (formatP (Dk.new n)).2 = 0 ∧ (formatP (Dk.new n)).1.Wf 9000 ∧ (formatP (Dk.new n)).1.ls.length = n ∧ (formatP (Dk.new n)).1.fs = [] ∧
    (openP (formatP (Dk.new n)).1).e = 0 ∧ (openP (formatP (Dk.new n)).1).s = [] ∧ (openP (formatP (Dk.new n)).1).txs = [] ∧ (openP (formatP (Dk.new n)).1).D.Wf 14000 ∧ (openP (formatP (Dk.new n)).1).D.fs = [] ∧
    (safeP (openP (formatP (Dk.new n)).1).D (openP (formatP (Dk.new n)).1).l).e = 0 ∧ Cur n 15000 1 (safeP (openP (formatP (Dk.new n)).1).D (openP (formatP (Dk.new n)).1).l).D (safeP (openP (formatP (Dk.new n)).1).D (openP (formatP (Dk.new n)).1).l).l 1 1 [] [] := by
  have f := formatP_new h32 h8
  have w : (formatP (Dk.new n)).1.Wf 9000 := (formatP_wf (Dk.Wf.new n 0 (by omega) h8)).mono (by have : (Dk.new n).ls.length = n := (by simp [Dk.new]); omega)
  generalize formatP (Dk.new n) = F at f w ⊢
  have hv : view F.1 = F.1.ls := by unfold view; rw [f.ps]; rfl
  have o := openP_tel (D := F.1) (e := 1) (q0 := 1) (s := []) (txs := []) (by rw [hv]; exact f.tel)
  obtain ⟨o1, o2⟩ := o.quiet f.quiet
  have ow := o.wf w
  rcases o.tells with o7 | o7
  · omega
  · rw [f.len, f.claim] at o7
    have s1 := safe_cur (n := n) (m := 9000 + 4100) (c := 1) (e := 1) (q0 := 1) (s := []) (txs := []) ow o1 (by rw [o.ls]; exact f.len) (by rw [o.claim, f.claim]) (by rw [o.ps]; exact f.ps) (by rw [o.ls]; exact f.tel)
    have hl : (openP F.1).l = lgOf (roomN n) 1 1 1 [] [] := by rw [o7]
    have hs : (openP F.1).s = [] := by rw [o7]
    have hx : (openP F.1).txs = [] := by rw [o7]
    rw [hl]
    obtain ⟨s2, s3⟩ := s1
    exact ⟨f.e, w, f.len, f.quiet.2, o2, hs, hx, ow.mono (by omega), o1.2, s2, ⟨s3.wf.mono (by omega), s3.quiet, s3.len, s3.claim, s3.calm⟩⟩
end Wl
end Go.Proofs.YthaiibfnjgfgjaaDoor
namespace Go.Proofs.YthaiibfnjgfgjaaDoor
open Go.RowKit
namespace Wl
theorem wNum (e : Int) (w : World) : Calls Tryd.prog 26 #[.int .i64 e] w fun x w' => x = .returned (.int .i64 e) ∧ w' = w := by
  go_enter Tryd.func26, Tryd.ntmps26
  go_wp2
  go_ret
  exact ⟨rfl, rfl⟩
def abcB : By := [97#8, 98#8, 99#8]
def xB : By := [120#8]
def sB : By := [115#8]
theorem bts_A : (#[.int .u8 97, .int .u8 98, .int .u8 99] : Array Value).toList = bts abcB := by have h0 : n8 97#8 = 97 := (by unfold n8; rfl); have h1 : n8 98#8 = 98 := (by unfold n8; rfl); have h2 : n8 99#8 = 99 := (by unfold n8; rfl); simp [abcB, bts, h0, h1, h2]
theorem bts_X : (#[.int .u8 120] : Array Value).toList = bts xB := by have h0 : n8 120#8 = 120 := (by unfold n8; rfl); simp [xB, bts, h0]
theorem bts_S : (#[.int .u8 115] : Array Value).toList = bts sB := by have h0 : n8 115#8 = 115 := (by unfold n8; rfl); simp [sB, bts, h0]
theorem key_lit {w W : World} {l : List It} (h : Bag w W l) (cs : Array Value) (b : By) (n m : Nat) (hb : cs.toList = bts b) : Bag w (W.alloc (.cells cs 5 (n, m))) (.key (some ⟨W.heap.size, 0, none⟩) b :: l) :=
  h.key (fresh1 W _) (Rd_new W 5 cs (n, m) b hb) (Nat.le_refl _) (by simp)
theorem dkl_front {w W : World} {p : Nat} {L : Lay} {D : Dk} {r : List It} (h : Bag w W (dkl p L D r)) (i : Nat) {x : It} (hi : r[i]? = some x) : Bag w W (dkl p L D (x :: r.eraseIdx i)) :=
  h.perm ((perm_eraseIdx hi).append_left (dkl p L D []))
theorem none_ts {ts : List Tx} (h : ts.map Tx.b = []) : ts = [] := by simpa using h
def BegR (w : World) (n : Nat) (e : Ending) (W' : World) : Prop := ∃ L p lp D l, e = .returned (.tuple #[.pointer (some ⟨p, 0, none⟩), .pointer (some ⟨lp, 0, none⟩)]) ∧ Cur n 15000 1 D l 1 1 [] [] ∧ Bag w W' (wl p L D lp l [])
set_option maxRecDepth 100000 in
set_option maxHeartbeats 4000000 in
theorem wBegun (n : Nat) (w : World) (h32 : 32 ≤ n) (h8 : n ≤ 8192) (ht : Tab w) (hT : 0 < w.heap.size) : Calls Tryd.prog 33 #[.int .i64 (n : Nat)] w (BegR w n) := by
  obtain ⟨f0, f1, f2, f3, o0, o1, o2, o3, o4, s0, s1⟩ := begunP h32 h8
  have hfo := fun (W : World) (p : Nat) (L : Lay) (h : Bag w W (dkl p L (Dk.new n) [])) => wFormat w W p L (Dk.new n) [] 0 n (by simp [Dk.new]) h32 h8 (Dk.Wf.new n 0 (by omega) h8) (by omega) (by show (0 : Nat) ≤ _; omega) ht hT h
  have hop := fun (W : World) (p : Nat) (L : Lay) (h : Bag w W (dkl p L (formatP (Dk.new n)).1 [])) => wOpen w W p L (formatP (Dk.new n)).1 [] 9000 n f2 h32 h8 f1 (by omega) (by rw [f3]; show (0 : Nat) ≤ _; omega) ht hT h
  have hsa := fun (W : World) (p lp : Nat) (L : Lay) (rest : List It) (h : Bag w W (wl p L (openP (formatP (Dk.new n)).1).D lp (openP (formatP (Dk.new n)).1).l rest)) => wSafe w W p lp L (openP (formatP (Dk.new n)).1).D (openP (formatP (Dk.new n)).1).l rest 14000 o3 (by omega) (by rw [o4]; show (0 : Nat) ≤ _; omega) h
  generalize formatP (Dk.new n) = F at *
  obtain ⟨FD, Fe⟩ := F
  simp only at f0 f1 f2 f3 o0 o1 o2 o3 o4 s0 s1 hfo hop hsa
  generalize openP FD = R at *
  obtain ⟨RD, Re, Rl, Rs, Rt⟩ := R
  simp only at o0 o1 o2 o3 o4 s0 s1 hop hsa
  subst f0; subst o0; subst o1; subst o2
  generalize safeP RD Rl = A at *
  obtain ⟨AD, Al, Ae⟩ := A
  simp only at s0 s1
  subst s0
  unfold FmtR at hfo
  unfold OpR at hop
  unfold SafeR at hsa
  simp only at hfo hop hsa
  have HFO := Lib.hid hfo
  have HOP := Lib.hid hop
  have HSA := Lib.hid hsa
  have HS1 := Lib.hid s1
  clear hfo hop hsa s1 f1 f2 f3 o3 o4 ht hT
  go_enter Tryd.func33, Tryd.ntmps33
  go_wp2_with fail
  refine (dkNew n w h32 h8).mono ?_
  rintro e W1 ⟨p, L, rfl, hB⟩
  have HB := Lib.hid (disk_iff.1 hB)
  clear hB
  go_wp2_with fail
  refine (HFO.out W1 p L HB.out).mono ?_
  clear HFO HB
  rintro e W2 ⟨L2, rfl, hB⟩
  have HB := Lib.hid hB
  clear hB
  go_wp2_with fail
  refine (HOP.out W2 p L2 HB.out).mono ?_
  clear HOP HB
  rintro e W3 (⟨h, _⟩ | ⟨_, L3, lp, ao, cs, tv, ts, rfl, hts, hB⟩)
  · exact absurd rfl h
  obtain rfl := none_ts hts
  have HB := Lib.hid (show Bag w W3 (wl p L3 RD lp Rl [.mine 5 ao cs [], .lst 29 1 tv 0 []]) from hB)
  clear hB hts
  obtain ⟨av, cv, rfl, _⟩ := HB.out.lstForm 8 rfl
  go_wp2_with (go_at_call 26; refine (wNum _ _).mono ?_; rintro e w' ⟨rfl, hw⟩; have hw := hw.symm; subst hw)
  refine (HSA.out W3 p lp L3 _ HB.out).mono ?_
  clear HSA HB
  rintro e W4 ⟨L4, rfl, hB⟩
  have HB := Lib.hid hB
  clear hB
  go_wp2_with (go_at_call 26; refine (wNum _ _).mono ?_; rintro e w' ⟨rfl, hw⟩; have hw := hw.symm; subst hw)
  go_ret2
  exact ⟨L4, p, lp, AD, Al, rfl, HS1.out, (show Bag w _ (wl p L4 AD lp Al []) from (HB.out.erase 7).erase 7)⟩

theorem sec_tag {b : By} {S : Sec} (h : getS b = some S) : b.take 4 = S.tag := by
  rw [← getV_tag (by rw [h]; rfl), (getV_some h).1]
theorem flat_take {ls : List By} (h : ∀ l ∈ ls, l.length = 512) : ∀ (i : Nat), i < ls.length → (ls.flatten.drop (i * 512)).take 4 = (ls.getD i []).take 4 := by
  induction ls with
  | nil => intro i hi; simp at hi
  | cons a r ih =>
    intro i hi
    have ha := h a List.mem_cons_self
    match i with
    | 0 =>
      simp only [List.flatten_cons, Nat.zero_mul, List.drop_zero]
      rw [List.take_append_of_le_length (by omega)]
      simp [List.getD]
    | i + 1 =>
      rw [List.flatten_cons, show (i + 1) * 512 = a.length + i * 512 by rw [ha]; omega, List.drop_append]
      simp only [Nat.add_sub_cancel_left]
      rw [List.drop_eq_nil_of_le (by omega), List.nil_append, ih (fun l hl => h l (List.mem_cons_of_mem _ hl)) i (by simpa using hi)]
      simp [List.getD]
theorem over_off {D : Dk} {l : Lg} (h : l.claim ≠ D.claim) : l.over D = true := by
  unfold Lg.over
  rw [show (D.claim == l.claim) = false by rw [beq_eq_false_iff_ne]; exact fun e => h e.symm]
  simp
structure FirstP (z y : By) (D : Dk) (l : Lg) : Prop where
  e1 : (appendP D l abcB).e = 0
  w1 : (appendP D l abcB).D.Wf 20000
  f1 : (appendP D l abcB).D.fs = []
  k1 : (appendP D l abcB).l.Ok
  e2 : (appendP (appendP D l abcB).D (appendP D l abcB).l z).e = 0
  c2 : Cur 32 20000 1 (appendP (appendP D l abcB).D (appendP D l abcB).l z).D (appendP (appendP D l abcB).D (appendP D l abcB).l z).l 1 1 [] [abcB, z]
theorem firstP {z y : By} {D : Dk} {l : Lg} (hz : z.length = 481) (h : Cur 32 15000 1 D l 1 1 [] []) : FirstP z y D l := by
  obtain ⟨a1, c1⟩ := h.append abcB (by decide) (by decide) (by unfold mq; decide) (by decide)
  have hn : needN z.length = 3 := by rw [hz]; decide
  obtain ⟨a2, c2⟩ := c1.append z (by omega) (by omega) (by unfold mq; decide) (by rw [hn]; decide)
  exact ⟨a1, c1.wf.mono (by omega), c1.quiet.2, c1.ok (by omega), a2, ⟨c2.wf.mono (by omega), c2.quiet, c2.len, c2.claim, c2.calm⟩⟩
structure SecondP (z y : By) (D : Dk) (l : Lg) : Prop where
  st : stateV D l = .tuple #[.int .i64 1, .int .i64 3, .int .i64 4]
  ck : checkP D l y = ⟨D, l, 112⟩
  lf : leftN D l = 11
  rm : roomL D l = 15
  pl : l.place ≤ l.room
  rl : l.room ≤ 4095
  t1 : (D.ls.flatten.drop 8704).take 4 = tO
  t2 : (D.ls.flatten.drop 9216).take 4 = tD
  t3 : (D.ls.flatten.drop 10240).take 4 = tC
  op : openP D = ⟨(openP D).D, 0, lgOf 15 2 1 1 [] [abcB, z], [], [abcB, z]⟩
  w3 : (openP D).D.Wf 25000
  f3 : (openP D).D.fs = []
  s3 : stateV (openP D).D l = .tuple #[.int .i64 0, .int .i64 0, .int .i64 0]
  x3 : appendP (openP D).D l xB = ⟨(openP D).D, l, 115⟩
  y3 : appendP (openP D).D (lgOf 15 2 1 1 [] [abcB, z]) xB = ⟨(openP D).D, lgOf 15 2 1 1 [] [abcB, z], 115⟩
  k3 : (lgOf 15 2 1 1 [] [abcB, z]).Ok
  e4 : (safeP (openP D).D (lgOf 15 2 1 1 [] [abcB, z])).e = 0
  c4 : Cur 32 25001 2 (safeP (openP D).D (lgOf 15 2 1 1 [] [abcB, z])).D (safeP (openP D).D (lgOf 15 2 1 1 [] [abcB, z])).l 1 1 [] [abcB, z]
theorem secondP {z y : By} {D : Dk} {l : Lg} (hz : z.length = 481) (hy : y.length = 1921) (h : Cur 32 20000 1 D l 1 1 [] [abcB, z]) : SecondP z y D l := by
  have hn : needN z.length = 3 := by rw [hz]; decide
  have hpc : pcN z.length = 2 := by rw [hz]; decide
  have hnx : nextP [] [abcB, z] = 4 := by
    show pcN 0 + (needN abcB.length + (needN z.length + 0)) = 4
    rw [hn]; decide
  have ho := h.calm.over
  have hroom : l.room = 15 := h.room
  have hplace : l.place = 4 := by rw [h.place, hnx]
  have hep : l.epoch = 1 := by rw [h.calm.lg]
  have hsq : l.seq = 3 := by rw [h.calm.lg]; rfl
  have hcl : l.claim = 1 := by rw [h.calm.lg]; exact h.claim
  obtain ⟨o1, o2, o3, o4, o5, o6⟩ := h.opens
  have hlay := h.calm.tel.lay
  rw [h.len] at hlay
  have hsec := h.wf.sec
  have hov3 : l.over (openP D).D = true := over_off (by rw [hcl, o5]; decide)
  have hov4 : (lgOf 15 2 1 1 [] [abcB, z]).over (openP D).D = false := by unfold Lg.over lgOf; rw [o5]; rfl
  have hT := h.calm.tel
  rw [← o3] at hT
  have s4 := safe_cur (n := 32) (m := 20000 + 4100) (c := 2) (e := 1) (q0 := 1) (s := []) (txs := [abcB, z]) o6 o2 (by rw [o3]; exact h.len) o5 o4 hT
  obtain ⟨s5, s6⟩ := s4
  have l1 := hlay.2.1
  have l2 := hlay.2.2.2.1
  unfold TxAt at l1 l2
  rw [if_pos (by decide)] at l1
  rw [if_neg (by omega), hpc] at l2
  have l3 := l2.1 0 (by decide)
  have l4 := l2.2
  refine ⟨?_, h.checkNo y (by show (3 : Nat) ≤ 4611686018427387904; decide) (by unfold mq; decide) (by rw [hy]; decide), ?_, ?_, by omega, by omega, ?_, ?_, ?_, o1, o6.mono (by omega), o2.2, ?_, ?_, ?_, ?_, s5, ⟨s6.wf.mono (by omega), s6.quiet, s6.len, s6.claim, s6.calm⟩⟩
  · unfold stateV; rw [if_neg (by rw [ho.1]; simp), hep, hsq, hplace]; rfl
  · unfold leftN; rw [if_neg (by rw [ho.1]; simp), hroom, hplace]
  · unfold roomL; rw [if_neg (by rw [ho.1]; simp), hroom]
  · rw [show (8704 : Nat) = 17 * 512 from rfl, flat_take hsec 17 (by rw [h.len]; decide)]
    exact sec_tag (S := secAt tagO 1 1 0 abcB) l1
  · rw [show (9216 : Nat) = 18 * 512 from rfl, flat_take hsec 18 (by rw [h.len]; decide)]
    exact sec_tag (S := secAt tagD 1 2 1 (pieceB z 0)) l3
  · rw [show (10240 : Nat) = 20 * 512 from rfl, flat_take hsec 20 (by rw [h.len]; decide)]
    exact sec_tag (S := secAt tagC 1 2 3 (endB z)) l4
  · unfold stateV; rw [if_pos hov3]
  · unfold appendP appendE; rw [hov3]; rfl
  · unfold appendP appendE; rw [hov4]; rfl
  · refine ⟨by show (15 : Nat) ≤ 4095; decide, by show (1 : Nat) ≤ 1; decide, by show (1 : Nat) ≤ 4611686018427387904; decide, by show (1 : Nat) ≤ 3; decide, by show (3 : Nat) ≤ 4611686018427387905; decide, ?_, by show (2 : Nat) ≤ 1000000000000; decide⟩
    show nextP [] [abcB, z] ≤ 15
    rw [hnx]; decide
theorem thirdP {z : By} {D : Dk} {l : Lg} {m : Nat} (h : Cur 32 m 2 D l 1 1 [] [abcB, z]) : (checkP D l sB).e = 0 ∧ stateV (checkP D l sB).D (checkP D l sB).l = .tuple #[.int .i64 2, .int .i64 3, .int .i64 1] := by
  obtain ⟨a1, c1⟩ := h.check sB (by show (3 : Nat) ≤ 4611686018427387904; decide) (by unfold mq; decide) (by decide)
  refine ⟨a1, ?_⟩
  have ho := c1.calm.over
  have hlg := c1.calm.lg
  unfold stateV
  rw [if_neg (by rw [ho.1]; simp), hlg]
  rfl
end Wl
end Go.Proofs.YthaiibfnjgfgjaaDoor
namespace Go.Proofs.YthaiibfnjgfgjaaDoor
open Go.RowKit
namespace Wl
@[go_sem] theorem beq_abcB (t : List (BitVec 8)) : ((str t).toList == [97, 98, 99]) = (t == abcB) := by rw [← of_beq, str_toList]; rfl
theorem two_ts {ts : List Tx} {b1 b2 : By} (h : ts.map Tx.b = [b1, b2]) : ∃ a1 c1 a2 c2, ts = [⟨a1, c1, b1⟩, ⟨a2, c2, b2⟩] := by
  match ts, h with
  | [t1, t2], h =>
    simp only [List.map_cons, List.map_nil, List.cons.injEq, and_true] at h
    obtain ⟨rfl, rfl⟩ := h
    exact ⟨t1.ao, t1.cap, t2.ao, t2.cap, rfl⟩
set_option maxRecDepth 100000 in
set_option maxHeartbeats 8000000 in
theorem wFirst (w : World) (ht : Tab w) (hT : 0 < w.heap.size) : Calls Tryd.prog 9 #[] w fun e w' => e = .returned (.bool true) ∧ Below w.heap.size w w' := by
  obtain ⟨i0, hi, hz0, hz1, hz2⟩ := info_parts info_u8
  obtain ⟨z, hz⟩ : ∃ z : By, List.replicate 481 0#8 = z := ⟨_, rfl⟩
  obtain ⟨y, hy⟩ : ∃ y : By, List.replicate 1921 0#8 = y := ⟨_, rfl⟩
  have HZ := Lib.hid hz
  have HY := Lib.hid hy
  have HZL := Lib.hid (show z.length = 481 by rw [← hz]; exact List.length_replicate ..)
  have HYL := Lib.hid (show y.length = 1921 by rw [← hy]; exact List.length_replicate ..)
  have HT := Lib.hid (And.intro ht hT)
  have hAbc : (abcB == abcB) = true := by simp
  have hTO : (tO == tO) = true := by simp
  have hTD : (tD == tD) = true := by simp
  have hTC : (tC == tC) = true := by simp
  clear hz hy ht hT
  go_enter Tryd.func9, Tryd.ntmps9
  go_wp2_with fail
  refine (wBegun 32 w (by decide) (by decide) HT.out.1 HT.out.2).mono ?_
  rintro e W1 ⟨L1, p, lp, D, l, rfl, hc, hB⟩
  have HB := Lib.hid hB
  have hf := firstP (y := y) HZL.out hc
  have HC := Lib.hid hc
  have HF := Lib.hid hf
  clear hB hc hf
  have kc := Lib.run_convert_bytes_const (P := Tryd.prog) W1 29 5 #[.int .u8 97, .int .u8 98, .int .u8 99] 3 3 Tryd.underlying29 Tryd.underlying5
  go_wp2_with fail
  clear kc
  generalize hU : W1.alloc (.cells #[.int .u8 97, .int .u8 98, .int .u8 99] 5 (3, 4)) = U1
  generalize hg : W1.heap.size = ga
  have HB1 := Lib.hid (show Bag w U1 (wl p L1 D lp l [.key (some ⟨ga, 0, none⟩) abcB]) from wl_in (by rw [← hU, ← hg]; exact key_lit HB.out _ abcB 3 4 bts_A))
  clear hU hg HB
  refine (wAppend w U1 p lp L1 D l _ 15000 abcB (some ⟨ga, 0, none⟩) 3 3 rfl (by decide) (by decide) (HC.out.ok (by omega)) HC.out.wf (by omega) (by rw [HC.out.quiet.2]; show (0 : Nat) ≤ _; omega) (fun W' h => h.keyRd 0 rfl) HT.out.1 HT.out.2 HB1.out).mono ?_
  rintro e W2 ⟨L2, he, hB⟩
  rw [HF.out.e1] at he
  subst he
  have HB2 := Lib.hid (show Bag w W2 (wl p L2 (appendP D l abcB).D lp (appendP D l abcB).l []) from hB.erase 7)
  clear hB HB1 HC
  obtain ⟨⟨D1, l1, e1⟩, hA1⟩ : ∃ A, appendP D l abcB = A := ⟨_, rfl⟩
  have hf := HF.out
  clear HF
  obtain ⟨f0, f1, f2, f3, f4, f5⟩ := hf
  rw [hA1] at HB2 f0 f1 f2 f3 f4 f5
  simp only at HB2 f0 f1 f2 f3 f4 f5
  have HW1 := Lib.hid f1
  have HF1 := Lib.hid f2
  have HK1 := Lib.hid f3
  have HE2 := Lib.hid f4
  have hs := secondP HZL.out HYL.out f5
  have HC2 := Lib.hid f5
  have HS := Lib.hid hs
  clear f0 f1 f2 f3 f4 f5 hA1 hs
  go_wp2_with (at_make; refine wpList_make_zeros rfl _ _ 29 rfl 5 i0 Tryd.underlying29 hi hz0 hz1 hz2 .i64 .i64 481 (by go_num) (by go_num) (by omega) z HZ.out ?_)
  intro W3 hO hb
  generalize hg : W2.heap.size = gz at hO
  have HB3 := Lib.hid (show Bag w W3 (wl p L2 D1 lp l1 [.mine 5 (some ⟨gz, 0, none⟩) 481 z]) from wl_in (HB2.out.own hb hO (by omega)))
  clear hO hb hg HB2
  go_wp2_with fail
  refine (wAppend w W3 p lp L2 D1 l1 _ 20000 z (some ⟨gz, 0, none⟩) 481 481 HZL.out (by decide) (by decide) HK1.out HW1.out (by omega) (by rw [HF1.out]; show (0 : Nat) ≤ _; omega) (fun W' h => h.mineRd 0 rfl) HT.out.1 HT.out.2 HB3.out).mono ?_
  rintro e W4 ⟨L4, he, hB⟩
  rw [HE2.out] at he
  subst he
  have HB4 := Lib.hid (show Bag w W4 (wl p L4 (appendP D1 l1 z).D lp (appendP D1 l1 z).l []) from hB.erase 7)
  clear hB HB3 HE2 HW1 HF1 HK1
  obtain ⟨⟨D2, l2, e2⟩, hA2⟩ : ∃ A, appendP D1 l1 z = A := ⟨_, rfl⟩
  have hs := HS.out
  have hc := HC2.out
  clear HS HC2
  rw [hA2] at HB4 hs hc
  simp only at HB4 hs hc
  clear hA2
  obtain ⟨s1, s2, s3, s4, s5, s6, s7, s8, s9, s10, s11, s12, s13, s14, s15, s16, s17, s18⟩ := hs
  generalize (openP D2).D = D3 at s10 s11 s12 s13 s14 s15 s17 s18
  have hfl := flat_len D2.ls hc.wf.sec
  rw [hc.len] at hfl
  obtain ⟨fl, hfle⟩ : ∃ fl, D2.ls.flatten = fl := ⟨_, rfl⟩
  rw [hfle] at s7 s8 s9 hfl
  have HFLE := Lib.hid hfle
  have HFL := Lib.hid (show fl.length = 16384 from hfl)
  clear hfle hfl
  have hst := wState w W4 p lp L4 D2 l2 [] HB4.out
  rw [s1] at hst
  have HC2 := Lib.hid hc
  have HCK := Lib.hid s2
  have HLF := Lib.hid s3
  have HRM := Lib.hid s4
  have HPL := Lib.hid (And.intro s5 s6)
  have HT1 := Lib.hid (And.intro s7 (And.intro s8 s9))
  have HOP := Lib.hid s10
  have HW3 := Lib.hid (And.intro s11 s12)
  have HS3 := Lib.hid s13
  have HX3 := Lib.hid s14
  have HY3 := Lib.hid s15
  have HK3 := Lib.hid s16
  have HE4 := Lib.hid s17
  have HC4 := Lib.hid s18
  have HST := Lib.hid hst
  clear hc hst s1 s2 s3 s4 s5 s6 s7 s8 s9 s10 s11 s12 s13 s14 s15 s16 s17 s18
  go_wp2_with fail
  refine HST.out.mono ?_
  clear HST
  rintro e W5 ⟨rfl, hst⟩
  have HB5 := Lib.hid (HB4.out.still hst)
  clear hst HB4
  go_wp2_with (at_make; refine wpList_make_zeros rfl _ _ 29 rfl 5 i0 Tryd.underlying29 hi hz0 hz1 hz2 .i64 .i64 1921 (by go_num) (by go_num) (by omega) y HY.out ?_)
  intro W6 hO hb
  generalize hg : W5.heap.size = gy at hO
  have HB6 := Lib.hid (show Bag w W6 (wl p L4 D2 lp l2 [.mine 5 (some ⟨gy, 0, none⟩) 1921 y]) from wl_in (HB5.out.own hb hO (by omega)))
  clear hO hb hg HB5
  go_wp2_with fail
  refine (wCheck w W6 p lp L4 D2 l2 _ 20000 y (some ⟨gy, 0, none⟩) 1921 1921 HYL.out (by decide) (by decide) (HC2.out.ok (by omega)) (by rw [HC2.out.len]; decide) (by rw [HC2.out.len]; decide) HC2.out.wf (by omega) (by rw [HC2.out.quiet.2]; show (0 : Nat) ≤ _; omega) (fun W' h => h.mineRd 0 rfl) HT.out.1 HT.out.2 HB6.out).mono ?_
  rintro e W7 ⟨L7, he, hB⟩
  rw [HCK.out] at he hB
  simp only at he hB
  subst he
  have HB7 := Lib.hid (show Bag w W7 (wl p L7 D2 lp l2 []) from hB.erase 7)
  clear hB HB6 HCK
  have hlf := fun (u : World) (hs : Still W7 u) => wLeft w u p lp L7 D2 l2 [] HPL.out.1 HPL.out.2 (HB7.out.still hs)
  have hrm := fun (u : World) (hs : Still W7 u) => wRoom w u p lp L7 D2 l2 [] (HB7.out.still hs)
  rw [HLF.out] at hlf
  rw [HRM.out] at hrm
  have HLF2 := Lib.hid hlf
  have HRM2 := Lib.hid hrm
  clear hlf hrm HLF HRM
  go_wp2_with (first
    | (go_at_call 26; refine (wNum _ _).mono ?_; rintro e w' ⟨rfl, hw⟩; have hw := hw.symm; subst hw)
    | (go_at_call 23; refine (HLF2.out _ (Still.refl _)).mono ?_; rintro e W8 ⟨rfl, hs8⟩)
    | (go_at_call 24; refine (HRM2.out _ hs8).mono ?_; rintro e W9 ⟨rfl, hs9⟩))
  have HB9 := Lib.hid ((HB7.out.still hs8).still hs9)
  clear hs8 hs9 HB7 HLF2 HRM2
  have hdu := dkDurable w W9 p L7 D2 _ 20000 HC2.out.wf HB9.out
  unfold DurR at hdu
  rw [HC2.out.len, HFLE.out, show 32 * 512 = 16384 from rfl] at hdu
  have HDU := Lib.hid hdu
  clear hdu
  refine HDU.out.mono ?_
  clear HDU
  rintro e W10 ⟨ao, cap, rfl, hB⟩
  have HB10 := Lib.hid hB
  clear hB HB9
  obtain ⟨gf, rfl⟩ := HB10.out.mineSome 0 rfl (by rw [HFL.out]; decide)
  have hcp := HB10.out.mineLe 0 rfl
  rw [HFL.out] at hcp
  have hrd := HB10.out.mineRd 0 rfl
  have hr1 := (hrd.drop 8704).take 4
  have hr2 := (hrd.drop 9216).take 4
  have hr3 := (hrd.drop 10240).take 4
  rw [HT1.out.1] at hr1
  rw [HT1.out.2.1] at hr2
  rw [HT1.out.2.2] at hr3
  have hcv1 := fun (c : Nat) => cvRun W10 (some ⟨gf, 8704, none⟩) tO 4 c rfl hr1
  have hcv2 := fun (c : Nat) => cvRun W10 (some ⟨gf, 9216, none⟩) tD 4 c rfl hr2
  have hcv3 := fun (c : Nat) => cvRun W10 (some ⟨gf, 10240, none⟩) tC 4 c rfl hr3
  have hop := wOpen w W10 p L7 D2 _ 20000 32 HC2.out.len (by decide) (by decide) HC2.out.wf (by omega) (by rw [HC2.out.quiet.2]; show (0 : Nat) ≤ _; omega) HT.out.1 HT.out.2 HB10.out.tail
  rw [HOP.out] at hop
  unfold OpR at hop
  simp only at hop
  have HOP2 := Lib.hid hop
  clear hop hrd hr1 hr2 hr3
  go_wp2_with fail
  clear hcv1 hcv2 hcv3 hcp
  refine HOP2.out.mono ?_
  clear HOP2 HOP HB10
  rintro e W11 (⟨h, _⟩ | ⟨_, L11, mp, sa, cs, tv, ts, rfl, hts, hB⟩)
  · exact absurd rfl h
  obtain ⟨a1, c1, a2, c2, rfl⟩ := two_ts hts
  clear hts
  generalize hm0 : lgOf 15 2 1 1 [] [abcB, z] = m0 at hB HY3 HK3 HE4 HC4
  clear hm0
  have HB11 := Lib.hid (show Bag w W11 (wl p L11 D3 lp l2 [lgb mp p m0, .mine 5 sa cs [], .lst 29 1 tv 2 [.slice a1 3 c1, .slice a2 z.length c2], .mine 5 a1 c1 abcB, .mine 5 a2 c2 z]) from dkl_front hB 5 rfl)
  clear hB
  obtain ⟨gt, ct, rfl, hct, hat, _⟩ := HB11.out.atN 9 rfl (by decide)
  have HAT := Lib.hid (show W11.cell? ⟨gt, 0, none⟩ = some (.slice a1 3 c1) from hat 0 (by decide))
  clear hat
  have hst := wState w W11 p lp L11 D3 l2 _ HB11.out
  rw [HS3.out] at hst
  have HST := Lib.hid hst
  clear hst
  go_wp2_with fail
  refine HST.out.mono ?_
  clear HST
  rintro e W12 ⟨rfl, hst⟩
  have HB12 := Lib.hid (HB11.out.still hst)
  clear hst HB11 HAT HS3
  have kc := Lib.run_convert_bytes_const (P := Tryd.prog) W12 29 5 #[.int .u8 120] 1 1 Tryd.underlying29 Tryd.underlying5
  go_wp2_with fail
  clear kc
  generalize hU : W12.alloc (.cells #[.int .u8 120] 5 (1, 2)) = U13
  generalize hg : W12.heap.size = g13
  have HB13 := Lib.hid (show Bag w U13 (wl p L11 D3 lp l2 [.key (some ⟨g13, 0, none⟩) xB, lgb mp p m0, .mine 5 sa cs [], .lst 29 1 (.slice (some ⟨gt, 0, none⟩) 2 ct) 2 [.slice a1 3 c1, .slice a2 z.length c2], .mine 5 a1 c1 abcB, .mine 5 a2 c2 z]) from wl_in (by rw [← hU, ← hg]; exact key_lit HB12.out _ xB 1 2 bts_X))
  clear hU hg HB12
  refine (wAppend w U13 p lp L11 D3 l2 _ 25000 xB (some ⟨g13, 0, none⟩) 1 1 rfl (by decide) (by decide) (HC2.out.ok (by omega)) HW3.out.1 (by omega) (by rw [HW3.out.2]; show (0 : Nat) ≤ _; omega) (fun W' h => h.keyRd 0 rfl) HT.out.1 HT.out.2 HB13.out).mono ?_
  rintro e W14 ⟨L14, he, hB⟩
  rw [HX3.out] at he hB
  simp only at he hB
  subst he
  have HB14 := Lib.hid (show Bag w W14 (wl p L14 D3 mp m0 [lgb lp p l2, .mine 5 sa cs [], .lst 29 1 (.slice (some ⟨gt, 0, none⟩) 2 ct) 2 [.slice a1 3 c1, .slice a2 z.length c2], .mine 5 a1 c1 abcB, .mine 5 a2 c2 z]) from dkl_front (show Bag w W14 (dkl p L14 D3 [lgb lp p l2, lgb mp p m0, .mine 5 sa cs [], .lst 29 1 (.slice (some ⟨gt, 0, none⟩) 2 ct) 2 [.slice a1 3 c1, .slice a2 z.length c2], .mine 5 a1 c1 abcB, .mine 5 a2 c2 z]) from hB.erase 7) 1 rfl)
  clear hB HB13 HX3 HC2
  have hct0 : W14.cell? ⟨gt, 0, none⟩ = some (.slice a1 3 c1) := by
    obtain ⟨_, _, he, _, hat, _⟩ := HB14.out.atN 9 rfl (by decide)
    cases he
    exact hat 0 (by decide)
  have hcv := cvRun W14 a1 abcB 3 c1 rfl (HB14.out.mineRd 10 rfl)
  have kc := Lib.run_convert_bytes_const (P := Tryd.prog) W14 29 5 #[.int .u8 120] 1 1 Tryd.underlying29 Tryd.underlying5
  go_wp2_with (go_at_call 26; refine (wNum _ _).mono ?_; rintro e w' ⟨rfl, hw⟩; have hw := hw.symm; subst hw)
  clear kc hcv hct0
  generalize hU : W14.alloc (.cells #[.int .u8 120] 5 (1, 2)) = U15
  generalize hg : W14.heap.size = g15
  have HB15 := Lib.hid (show Bag w U15 (wl p L14 D3 mp m0 [.key (some ⟨g15, 0, none⟩) xB, lgb lp p l2, .mine 5 sa cs [], .lst 29 1 (.slice (some ⟨gt, 0, none⟩) 2 ct) 2 [.slice a1 3 c1, .slice a2 z.length c2], .mine 5 a1 c1 abcB, .mine 5 a2 c2 z]) from wl_in (by rw [← hU, ← hg]; exact key_lit HB14.out _ xB 1 2 bts_X))
  clear hU hg HB14
  refine (wAppend w U15 p mp L14 D3 m0 _ 25000 xB (some ⟨g15, 0, none⟩) 1 1 rfl (by decide) (by decide) HK3.out HW3.out.1 (by omega) (by rw [HW3.out.2]; show (0 : Nat) ≤ _; omega) (fun W' h => h.keyRd 0 rfl) HT.out.1 HT.out.2 HB15.out).mono ?_
  rintro e W16 ⟨L16, he, hB⟩
  rw [HY3.out] at he hB
  simp only at he hB
  subst he
  have HB16 := Lib.hid (show Bag w W16 (wl p L16 D3 mp m0 []) from (((((hB.erase 7).erase 7).erase 7).erase 7).erase 7).erase 7)
  clear hB HB15 HY3 HK3
  go_wp2_with fail
  refine (wSafe w W16 p mp L16 D3 m0 _ 25000 HW3.out.1 (by omega) (by rw [HW3.out.2]; show (0 : Nat) ≤ _; omega) HB16.out).mono ?_
  rintro e W17 ⟨L17, he, hB⟩
  rw [HE4.out] at he
  subst he
  have HB17 := Lib.hid hB
  clear hB HB16 HE4 HW3
  have h3 := thirdP HC4.out
  generalize safeP D3 m0 = A4 at HB17 HC4 h3
  have HC5 := Lib.hid h3
  clear h3
  have kc := Lib.run_convert_bytes_const (P := Tryd.prog) W17 29 5 #[.int .u8 115] 1 1 Tryd.underlying29 Tryd.underlying5
  go_wp2_with fail
  clear kc
  generalize hU : W17.alloc (.cells #[.int .u8 115] 5 (1, 2)) = U18
  generalize hg : W17.heap.size = g18
  have HB18 := Lib.hid (show Bag w U18 (wl p L17 A4.D mp A4.l [.key (some ⟨g18, 0, none⟩) sB]) from wl_in (by rw [← hU, ← hg]; exact key_lit HB17.out _ sB 1 2 bts_S))
  clear hU hg HB17
  refine (wCheck w U18 p mp L17 A4.D A4.l _ 25001 sB (some ⟨g18, 0, none⟩) 1 1 rfl (by decide) (by decide) (HC4.out.ok (by omega)) (by rw [HC4.out.len]; decide) (by rw [HC4.out.len]; decide) HC4.out.wf (by omega) (by rw [HC4.out.quiet.2]; show (0 : Nat) ≤ _; omega) (fun W' h => h.keyRd 0 rfl) HT.out.1 HT.out.2 HB18.out).mono ?_
  rintro e W19 ⟨L19, he, hB⟩
  rw [HC5.out.1] at he
  subst he
  have HB19 := Lib.hid hB
  clear hB HB18 HC4
  have hst := wState w W19 p mp L19 _ _ _ HB19.out
  rw [HC5.out.2] at hst
  have HST := Lib.hid hst
  clear hst
  go_wp2_with fail
  refine HST.out.mono ?_
  clear HST
  rintro e W20 ⟨rfl, hst⟩
  have HB20 := Lib.hid (HB19.out.still hst)
  clear hst HB19
  go_wp2_with (go_at_call 26; refine (wNum _ _).mono ?_; rintro e w' ⟨rfl, hw⟩; have hw := hw.symm; subst hw)
  go_ret
  exact ⟨rfl, HB20.out.below⟩
end Wl
end Go.Proofs.YthaiibfnjgfgjaaDoor
