/- The law's follows: Read. -/
import Derived.Test.YtkndlpihhfjcpaaDlModel
namespace Go.Proofs.Ytkndlpihhfjcpaa
open Go.RowKit
theorem dm_swap {w W : World} {p q : Nat} {L : Lay} {M : MLay} {D : Dk} {ls : List (List (BitVec 8))} {ps : List (Nat × List (BitVec 8))} {rest : List It} (h : Bag w W (dkl p L D (mkl q M ls ps rest))) : Bag w W (mkl q M ls ps (dkl p L D rest)) :=
  h.perm (List.perm_append_comm_assoc (dkl p L D []) (mkl q M ls ps []) rest)
theorem dm_back {w W : World} {p q : Nat} {L : Lay} {M : MLay} {D : Dk} {ls : List (List (BitVec 8))} {ps : List (Nat × List (BitVec 8))} {rest : List It} (h : Bag w W (mkl q M ls ps (dkl p L D rest))) : Bag w W (dkl p L D (mkl q M ls ps rest)) :=
  h.perm (List.perm_append_comm_assoc (mkl q M ls ps []) (dkl p L D []) rest)
theorem dm_in {w W : World} {x : It} {p q : Nat} {L : Lay} {M : MLay} {D : Dk} {ls : List (List (BitVec 8))} {ps : List (Nat × List (BitVec 8))} {rest : List It} (h : Bag w W (x :: dkl p L D (mkl q M ls ps rest))) : Bag w W (dkl p L D (mkl q M ls ps (x :: rest))) :=
  h.perm (List.perm_middle (l₁ := dkl p L D (mkl q M ls ps [])) (l₂ := rest) (a := x)).symm
theorem dm_out {w W : World} {x : It} {p q : Nat} {L : Lay} {M : MLay} {D : Dk} {ls : List (List (BitVec 8))} {ps : List (Nat × List (BitVec 8))} {rest : List It} (h : Bag w W (dkl p L D (mkl q M ls ps (x :: rest)))) : Bag w W (x :: dkl p L D (mkl q M ls ps rest)) :=
  h.perm (List.perm_middle (l₁ := dkl p L D (mkl q M ls ps [])) (l₂ := rest) (a := x))
theorem Bag.dropN {w W : World} : ∀ (n : Nat) {l : List It}, Bag w W l → Bag w W (l.drop n)
  | 0, _, h => h
  | _ + 1, [], h => h
  | n + 1, _ :: _, h => Bag.dropN n h.tail
def FolR (w : World) (p q : Nat) (D : Dk) (rest : List It) (e : Ending) (W' : World) : Prop := e = .returned (.bool true) ∧ ∃ L M, Bag w W' (dkl p L D (mkl q M D.ls D.ps rest))
theorem readD_ls (D : Dk) (i : Int) : (D.readD i).ls = D.ls := by unfold Dk.readD; split; exact D.opD_ls; rfl
theorem readD_ps (D : Dk) (i : Int) : (D.readD i).ps = D.ps := by unfold Dk.readD; split; exact D.opD_ps; rfl
theorem inn_at {D : Dk} {z : Nat} (h : z < D.ls.length) : D.inn z = true := by unfold Dk.inn; simpa using h
set_option maxRecDepth 100000 in
set_option maxHeartbeats 4000000 in
theorem follows_1 (w W : World) (p q : Nat) (L : Lay) (M : MLay) (D : Dk) (rest : List It) (m : Nat) (i : Int) (sec : Bool) (ad af ak : Option Addr) (nd cd nf cf nk ck : Nat) (data : List (BitVec 8)) (fs : List (Int × Int)) (keep : List Bool) (hdn : data.length = nd) (hfn : fs.length = nf) (hkn : keep.length = nk) (_bd : nd ≤ 140737488351232) (_bf : nf ≤ 8796093022000) (_bfc : nf ≤ cf) (baf : af = none → cf = 0) (_bk : nk ≤ 140737488351232) (hw : D.Wf m) (hm : m ≤ 1000000000) (hfl : D.fs.length ≤ 10000000000000) (hn : D.ls.length = 32) (_hi0 : -9223372036854775808 ≤ i) (_hi1 : i ≤ 9223372036854775807)
   (hr : ∀ W', Bag w W' rest → Rd W' ad data ∧ Fd W' af fs ∧ Bo W' ak keep) (hB : Bag w W (dkl p L D (mkl q M D.ls D.ps rest))) :
   Calls Try.prog 19 #[.pointer (some ⟨q, 0, none⟩), .pointer (some ⟨p, 0, none⟩), .agg #[.int .i64 1, .int .i64 i, .bool sec, .slice ad nd cd, .slice af nf cf, .slice ak nk ck]] W (FolR w p q (D.readD (placeZ i 32)) rest) := by
  have HW := Lib.hid hw
  have HR := Lib.hid hr
  have HDN := Lib.hid hdn
  have HFN := Lib.hid hfn
  have HKN := Lib.hid hkn
  have HAF := Lib.hid baf
  have HN := Lib.hid hn
  clear hw hr hdn hfn hkn baf hn
  have h0 := dm_in (hB.alloc #[.int .i64 1, .int .i64 i, .bool sec, .slice ad nd cd, .slice af nf cf, .slice ak nk ck] 44)
  clear hB
  obtain ⟨z, hz⟩ : ∃ z : Nat, placeZ i 32 = z := ⟨(placeZ i 32).toNat, by have := placeZ_bd i 32 (by omega); omega⟩
  have hz1 : z < 32 := by have := placeZ_bd i 32 (by omega); omega
  have HZ := Lib.hid hz
  clear hz
  go_enter Try.func19, Try.ntmps19
  go_wp2_with fail
  generalize hU : W.alloc (.cells #[.int .i64 1, .int .i64 i, .bool sec, .slice ad nd cd, .slice af nf cf, .slice ak nk ck] 44 (0, 0)) = U at h0 ⊢
  generalize hbx : W.heap.size = bx at h0 ⊢
  have HB := Lib.hid h0
  clear h0 hU hbx
  obtain ⟨x0, x1, x2, x3, x4, x5, xf⟩ := cells6 (HB.out.box 10 rfl)
  refine (placeOf i 32 _ (by omega) (by omega)).mono ?_
  rintro e w' ⟨rfl, rfl⟩
  rw [HZ.out]
  go_wp2_with fail
  refine (dkRead w U p L D _ m z HW.out (by omega) (by omega) (by omega) (by omega) HB.out).mono ?_
  rintro e w1 ⟨ao, cap, rfl, hB1⟩
  have HB1 := Lib.hid (dm_in hB1)
  have hl : (D.readB z).length ≤ 512 ∧ (D.readE z = 0 → D.readB z = Dk.latest D.ls D.ps z ∧ (D.readB z).length = 512) := by
    unfold Dk.readB
    split
    · rename_i h0
      have := HW.out.latest z (by rw [HN.out]; exact hz1)
      rw [show ((z : Int)).toNat = z from rfl]
      exact ⟨by omega, fun _ => ⟨rfl, this⟩⟩
    · exact ⟨by simp, fun h => absurd h (by assumption)⟩
  obtain ⟨bb, hbb⟩ : ∃ bb, D.readB z = bb := ⟨_, rfl⟩
  obtain ⟨er, her⟩ : ∃ er, D.readE z = er := ⟨_, rfl⟩
  rw [hbb, her] at hl
  rw [hbb] at HB1 ⊢
  rw [her]
  obtain ⟨n, hn⟩ : ∃ n, bb.length = n := ⟨_, rfl⟩
  have hn5 : n ≤ 512 := by rw [← hn]; exact hl.1
  have HL := Lib.hid hl.2
  have HNN := Lib.hid hn
  rw [hn]
  have HR5 := Lib.hid ((HW.out.latest z (by rw [HN.out]; exact hz1)))
  clear hB1 hbb her hl hn
  obtain ⟨x0, x1, x2, x3, x4, x5, xf⟩ := cells6 (HB1.out.box 11 rfl)
  go_wp2_with fail
  refine (mkLatest w w1 q M D.ls D.ps _ z hz1 (by have := HW.out.pend; omega) (dm_swap HB1.out)).mono ?_
  rintro e w2 ⟨a2, c2, rfl, hRd, hB2⟩
  have HB2 := Lib.hid (dm_back hB2)
  have HRd := Lib.hid hRd
  clear hB2 hRd HB1 x0 x1 x2 x3 x4 x5 xf
  go_wp2_with fail
  refine (sameAs ao a2 bb (Dk.latest D.ls D.ps z) n 512 cap c2 w2 HNN.out HR5.out (by omega) (by omega) (HB2.out.mineRd 10 rfl) HRd.out).mono ?_
  rintro e w3 ⟨rfl, hst⟩
  have HB3 := Lib.hid (dm_out (dm_out (HB2.out.still hst)).tail).tail
  clear hst HB2 HRd
  by_cases he0 : er = 0
  · subst he0
    have HT := Lib.hid (show (bb == Dk.latest D.ls D.ps z) = true by rw [(HL.out rfl).1]; simp)
    rw [HT.out]
    go_wp2_with fail
    refine (numOf _ _).mono ?_
    rintro e w' ⟨rfl, rfl⟩
    go_wp2_with fail
    go_ret
    refine ⟨rfl, L, M, ?_⟩
    rw [HZ.out, readD_ls, readD_ps]; exact HB3.out
  · have hne : (er != 0) = true := by rw [bne_iff_ne]; exact he0
    clear he0
    go_wp2_with fail
    refine (numOf _ _).mono ?_
    rintro e w' ⟨rfl, rfl⟩
    go_wp2_with fail
    go_ret
    refine ⟨rfl, L, M, ?_⟩
    rw [HZ.out, readD_ls, readD_ps]; exact HB3.out
end Go.Proofs.Ytkndlpihhfjcpaa
