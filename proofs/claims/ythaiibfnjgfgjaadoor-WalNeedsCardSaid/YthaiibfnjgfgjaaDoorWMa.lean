/- The log's numbers: Need, Pieces, where a place lies, a piece of a string, the bodies of a superblock and of an end. The log's small calls: what a superblock and an end say, how many places there are, a sector that is put, and what a refusal leaves. A log over a device: has it ended; what a refusal leaves; Flush, Write. A log over a device: the pieces of a string; the last sector. A log over a device: the last sector; Safe; State, Left, Room. -/
import Derived.Test.YthaiibfnjgfgjaaDoorWMt
import Derived.Test.YthaiibfnjgfgjaaDoorWPWDkT
namespace Go.Proofs.YthaiibfnjgfgjaaDoor
open Go.RowKit
namespace Wl
def pcZ (n : Int) : Int := if n < 1 then 0 else (n - 1) / 480 + 1
def needZ (n : Int) : Int := if n < 1 ∨ 4800 < n then 0 else if n ≤ 480 then 1 else pcZ n + 1
theorem pcZ_nat (n : Nat) : pcZ (n : Int) = (pcN n : Int) := by unfold pcZ pcN; split <;> omega
theorem needZ_nat (n : Nat) : needZ (n : Int) = (needN n : Int) := by
  unfold needZ needN
  rw [pcZ_nat]
  by_cases h1 : n < 1 ∨ 4800 < n
  · rw [if_pos h1, if_pos (by omega)]; rfl
  · rw [if_neg h1, if_neg (by omega)]
    by_cases h2 : n ≤ 480
    · rw [if_pos h2, if_pos (by omega)]; rfl
    · rw [if_neg h2, if_neg (by omega)]; rfl
theorem wPiecesZ (n : Int) (w : World) (h0 : -9223372036854775808 ≤ n) (h1 : n ≤ 9223372036854775807) : Calls Tryd.prog 11 #[.int .i64 n] w fun e w' => e = .returned (.int .i64 (pcZ n)) ∧ w = w' := by
  by_cases h : n < 1
  · go_enter Tryd.func11, Tryd.ntmps11
    go_wp2_with fail
    go_ret
    exact ⟨by simp [pcZ, h], rfl⟩
  · have hd : (n - 1).tdiv 480 = (n - 1) / 480 := Int.tdiv_eq_ediv_of_nonneg (by omega)
    have hp : pcZ n = (n - 1) / 480 + 1 := by unfold pcZ; rw [if_neg h]
    have HP := Lib.hid hp
    clear hp
    go_enter Tryd.func11, Tryd.ntmps11
    go_wp2_with fail
    go_ret
    exact ⟨by rw [HP.out] <;> rfl, rfl⟩
theorem wPieces (n : Nat) (w : World) (h1 : n ≤ 1000000000000000) : Calls Tryd.prog 11 #[.int .i64 (n : Nat)] w fun e w' => e = .returned (.int .i64 (pcN n : Nat)) ∧ w = w' := by
  have := wPiecesZ (n : Int) w (by omega) (by omega)
  rwa [pcZ_nat] at this
theorem wNeedZ (n : Int) (w : World) (h0 : -9223372036854775808 ≤ n) (h1 : n ≤ 9223372036854775807) : Calls Tryd.prog 10 #[.int .i64 n] w fun e w' => e = .returned (.int .i64 (needZ n)) ∧ w = w' := by
  by_cases h : n < 1
  · have HP := Lib.hid (show needZ n = 0 by unfold needZ; rw [if_pos (Or.inl h)])
    go_enter Tryd.func10, Tryd.ntmps10
    go_wp2_with fail
    go_ret
    exact ⟨by rw [HP.out]; rfl, rfl⟩
  · by_cases h2 : 4800 < n
    · have HP := Lib.hid (show needZ n = 0 by unfold needZ; rw [if_pos (Or.inr h2)])
      go_enter Tryd.func10, Tryd.ntmps10
      go_wp2_with fail
      go_ret
      exact ⟨by rw [HP.out]; rfl, rfl⟩
    · by_cases h3 : n ≤ 480
      · have HP := Lib.hid (show needZ n = 1 by unfold needZ; rw [if_neg (by omega), if_pos h3])
        go_enter Tryd.func10, Tryd.ntmps10
        go_wp2_with fail
        go_ret
        exact ⟨by rw [HP.out]; rfl, rfl⟩
      · obtain ⟨p, hp⟩ : ∃ p, pcZ n = p := ⟨_, rfl⟩
        have hp0 : 0 ≤ p := by rw [← hp]; unfold pcZ; rw [if_neg h]; omega
        have hp1 : p ≤ 11 := by rw [← hp]; unfold pcZ; rw [if_neg h]; omega
        have HP := Lib.hid (show needZ n = p + 1 by unfold needZ; rw [if_neg (by omega), if_neg h3, hp])
        have HQ := wPiecesZ n w h0 h1
        rw [hp] at HQ
        clear hp
        go_enter Tryd.func10, Tryd.ntmps10
        go_wp2_with fail
        refine HQ.mono ?_
        clear HQ
        rintro e w' ⟨rfl, rfl⟩
        go_wp2_with fail
        go_ret
        exact ⟨by rw [HP.out]; rfl, rfl⟩
theorem wNeed (n : Nat) (w : World) (h1 : n ≤ 1000000000000000) : Calls Tryd.prog 10 #[.int .i64 (n : Nat)] w fun e w' => e = .returned (.int .i64 (needN n : Nat)) ∧ w = w' := by
  have := wNeedZ (n : Int) w (by omega) (by omega)
  rwa [needZ_nat] at this
theorem wStart (e room : Nat) (w : World) (he : e ≤ 4611686018427387904) (hr : room ≤ 4095) : Calls Tryd.prog 47 #[.int .i64 (e : Nat), .int .i64 (room : Nat)] w fun x w' => x = .returned (.int .i64 (startN e room : Nat)) ∧ w = w' := by
  have ht : (e : Int).tmod 2 = (e : Int) % 2 := Int.tmod_eq_emod_of_nonneg (by omega)
  rcases Nat.mod_two_eq_zero_or_one e with h | h
  · have hm : (e : Int) % 2 = 0 := by omega
    have HS := Lib.hid (show ((startN e room : Nat) : Int) = 2 by unfold startN; rw [h]; simp)
    clear h
    go_enter Tryd.func47, Tryd.ntmps47
    go_wp2_with fail
    go_ret
    exact ⟨by rw [HS.out] <;> rfl, rfl⟩
  · have hm : (e : Int) % 2 = 1 := by omega
    have HS := Lib.hid (show ((startN e room : Nat) : Int) = 2 + (room : Int) by unfold startN; rw [h]; omega)
    clear h
    go_enter Tryd.func47, Tryd.ntmps47
    go_wp2_with fail
    go_ret
    exact ⟨by rw [HS.out] <;> rfl, rfl⟩
theorem wStart' (e room : Nat) (w : World) (he : e ≤ 4611686018427387904) (hr : room ≤ 4095) : Calls Tryd.prog 47 #[.int .i64 (e : Nat), .int .i64 (room : Nat)] w fun x w' => x = .returned (.int .i64 (startN e room : Nat)) ∧ w' = w := (wStart e room w he hr).mono fun _ _ h => ⟨h.1, h.2.symm⟩
theorem cut480 (ao : Option Addr) (n cap i m : Nat) (h : i * 480 + m ≤ cap) (z : Int) (hz : z = (i : Int) * 480 + (m : Int)) (u : World) :
    (Instr.slice 29 (.slice ao n cap) (some (.int .i64 ((i : Int) * 480))) (some (.int .i64 z)) none).run Tryd.prog u = .ok (.slice (cutAt ao cap (i * 480)) m (cap - i * 480)) u := by
  have h1 := cutRun ao n cap (i * 480) m h u
  rw [show ((i * 480 : Nat) : Int) = (i : Int) * 480 by omega] at h1
  rw [hz, h1]
set_option maxRecDepth 100000 in
set_option maxHeartbeats 1000000 in
theorem wPiece (ao : Option Addr) (b : By) (n cap i : Nat) (w : World) (hn : b.length = n) (hn1 : n ≤ 1000000000000) (hc : n ≤ cap) (hi : i < pcN n) :
   Calls Tryd.prog 64 #[.slice ao n cap, .int .i64 (i : Nat)] w fun x w' => x = .returned (.slice (cutAt ao cap (i * 480)) (pieceB b i).length (cap - i * 480)) ∧ w = w' := by
  have hil := pcN_lt hi
  have hpl := piece_len b i
  rw [hn] at hpl
  by_cases hf : (i + 1) * 480 ≤ n
  · have hf' : ¬ (n : Int) < ((i : Int) + 1) * 480 := by omega
    have hm : (pieceB b i).length = 480 := by omega
    have hs := cut480 ao n cap i 480 (by omega) (((i : Int) + 1) * 480) (by omega)
    rw [hm]
    clear hn hpl hm
    go_enter Tryd.func64, Tryd.ntmps64
    go_wp2_with fail
    all_goals
      go_ret
      refine ⟨?_, rfl⟩
      first
        | (show Ending.returned (.slice (Option.map (fun x => x.add (i * 480)) ao) ((((i : Int) + 1) * 480).toNat - i * 480) (cap - i * 480)) = _
           unfold cutAt
           rw [if_neg (by omega), show (((i : Int) + 1) * 480).toNat - i * 480 = 480 by omega])
        | (show Ending.returned (.slice (Option.map (fun x => x.add (i * 480)) ao) (n - i * 480) (cap - i * 480)) = _
           unfold cutAt
           rw [if_neg (by omega), show n - i * 480 = 480 by omega])
  · have hf' : (n : Int) < ((i : Int) + 1) * 480 := by omega
    have hm : (pieceB b i).length = n - i * 480 := by omega
    have hs := cut480 ao n cap i (n - i * 480) (by omega) (n : Int) (by omega)
    rw [hm]
    clear hn hpl hm
    go_enter Tryd.func64, Tryd.ntmps64
    go_wp2_with fail
    go_ret
    refine ⟨?_, rfl⟩
    show Ending.returned (.slice (Option.map (fun x => x.add (i * 480)) ao) (n - i * 480) (cap - i * 480)) = _
    unfold cutAt
    rw [if_neg (by omega)]
theorem piece_rd {W : World} {ao : Option Addr} {b : By} {cap i : Nat} (h : Rd W ao b) (hc : b.length ≤ cap) (hi : i < pcN b.length) : Rd W (cutAt ao cap (i * 480)) (pieceB b i) := by
  have hil := pcN_lt hi
  by_cases hf : (i + 1) * 480 ≤ b.length
  · exact h.cut cap (i * 480) 480 (by omega) hc
  · have h1 := h.cut cap (i * 480) (b.length - i * 480) (by omega) hc
    unfold pieceB
    rw [List.take_of_length_le (by simp)] at h1
    rw [List.take_of_length_le (by simp; omega)]
    exact h1
end Wl
end Go.Proofs.YthaiibfnjgfgjaaDoor
namespace Go.Proofs.YthaiibfnjgfgjaaDoor
open Go.RowKit
namespace Wl
theorem as32 {z : Nat} (h : z < 4294967296) : ((z : Nat) : Int) = n32 (BitVec.ofNat 32 z) := by
  unfold n32
  rw [BitVec.toNat_ofNat, Nat.mod_eq_of_lt h]
theorem as16 {z : Nat} (h : z < 65536) : ((z : Nat) : Int) = n16 (BitVec.ofNat 16 z) := by
  unfold n16
  rw [BitVec.toNat_ofNat, Nat.mod_eq_of_lt h]
theorem be32 {z : Nat} (h : z < 4294967296) : be ((BitVec.ofNat 32 z).setWidth 64) 4 = num z 4 := by
  unfold num
  congr 1
  apply BitVec.eq_of_toNat_eq
  rw [BitVec.toNat_setWidth, BitVec.toNat_ofNat, BitVec.toNat_ofNat]
  omega
theorem be16 {z : Nat} (h : z < 65536) : be ((BitVec.ofNat 16 z).setWidth 64) 2 = num z 2 := by
  unfold num
  congr 1
  apply BitVec.eq_of_toNat_eq
  rw [BitVec.toNat_setWidth, BitVec.toNat_ofNat, BitVec.toNat_ofNat]
  omega
def Made (w : World) (l : By) (n : Nat) (e : Ending) (w' : World) : Prop := ∃ g, e = .returned (.slice (some ⟨g, 0, none⟩) n n) ∧ w.heap.size ≤ g ∧ Own w' g n 5 l ∧ Below w.heap.size w w'
set_option maxRecDepth 20000 in
set_option maxHeartbeats 1000000 in
theorem wBodySuper (n : Nat) (s : By) (ao : Option Addr) (k cap : Nat) (w : World) (hn : n ≤ 8192) (hk : s.length = k) (hs : k ≤ 4000000000) (hr : Rd w ao s) (ht : Tab w) (hT : 0 < w.heap.size) :
   Calls Tryd.prog 48 #[.int .i64 (n : Nat), .slice ao k cap] w (Made w (superB n s) 16) := by
  have hp : pcN k ≤ 10000000 := by unfold pcN; omega
  have HR := Lib.hid (fun (w' : World) (hb : Below w.heap.size w w') => hr.on hb)
  have HT := Lib.hid (fun (w' : World) (hb : Below w.heap.size w w') => ht.below hb hT)
  have HK := Lib.hid hk
  have P1 := Lib.hid (fun (w : World) => put32 none [] 0 (BitVec.ofNat 32 n) w (by simp) (Rd.nil _ _))
  clear hr ht hT hk
  go_enter Tryd.func48, Tryd.ntmps48
  go_wp2_with fail
  have h := P1.out w
  rw [← as32 (by omega)] at h
  refine h.mono ?_
  clear h P1
  rintro e w1 ⟨g1, rfl, hg1, hO1, hb1⟩
  rw [be32 (by omega)] at hO1
  simp only [List.length_nil, List.nil_append, Nat.zero_add] at hO1
  have HO1 := Lib.hid hO1
  clear hO1
  go_wp2_with fail
  refine (wPieces k w1 (by omega)).mono ?_
  rintro e w' ⟨rfl, rfl⟩
  obtain ⟨p, hpe⟩ : ∃ p, pcN k = p := ⟨_, rfl⟩
  rw [hpe] at hp ⊢
  have HPE := Lib.hid hpe
  clear hpe
  go_wp2_with fail
  have h := put32 (some ⟨g1, 0, none⟩) (num n 4) 4 (BitVec.ofNat 32 p) w1 (by rw [num_len]; omega) HO1.out.rd
  rw [← as32 (by omega), num_len] at h
  refine h.mono ?_
  clear h
  rintro e w2 ⟨g2, rfl, hg2, hO2, hb2⟩
  rw [be32 (by omega)] at hO2
  have HO2 := Lib.hid hO2
  have hbb := hb1.trans (hb2.mono hb1.size)
  clear hO2 HO1
  go_wp2_with fail
  have h := put32 (some ⟨g2, 0, none⟩) (num n 4 ++ num p 4) 8 (BitVec.ofNat 32 k) w2 (by simp [num_len]) HO2.out.rd
  rw [← as32 (by omega)] at h
  simp only [List.length_append, num_len, Nat.reduceAdd] at h
  refine h.mono ?_
  clear h
  rintro e w3 ⟨g3, rfl, hg3, hO3, hb3⟩
  rw [be32 (by omega)] at hO3
  have HO3 := Lib.hid hO3
  have hbc := hbb.trans (hb3.mono hbb.size)
  clear hO3 HO2
  go_wp2_with fail
  have h := crcSum ao s cap w3 (by rw [HK.out]; omega) (HR.out w3 hbc) (HT.out w3 hbc)
  rw [HK.out] at h
  refine h.mono ?_
  clear h
  rintro e w' ⟨rfl, rfl⟩
  go_wp2_with fail
  have h := put32 (some ⟨g3, 0, none⟩) (num n 4 ++ num p 4 ++ num k 4) 12 (Crc.sum s) w3 (by simp [num_len]) HO3.out.rd
  simp only [List.length_append, num_len, Nat.reduceAdd] at h
  refine h.mono ?_
  clear h
  rintro e w4 ⟨g4, rfl, hg4, hO4, hb4⟩
  have HO4 := Lib.hid hO4
  have hbd := hbc.trans (hb4.mono hbc.size)
  clear hO4 HO3
  have hgg : w.heap.size ≤ g4 := Nat.le_trans hbc.size hg4
  go_wp2_with fail
  go_ret
  refine ⟨g4, rfl, hgg, ?_, hbd⟩
  have h4 := HO4.out
  unfold superB sumB
  rw [HK.out, HPE.out]
  simpa [List.append_assoc] using h4
set_option maxRecDepth 20000 in
set_option maxHeartbeats 1000000 in
theorem wBodyEnd (s : By) (ao : Option Addr) (k cap : Nat) (w : World) (hk : s.length = k) (hs : k ≤ 1000000) (hr : Rd w ao s) (ht : Tab w) (hT : 0 < w.heap.size) :
   Calls Tryd.prog 44 #[.slice ao k cap] w (Made w (endB s) 10) := by
  have hp : pcN k ≤ 10000 := by unfold pcN; omega
  have HR := Lib.hid (fun (w' : World) (hb : Below w.heap.size w w') => hr.on hb)
  have HT := Lib.hid (fun (w' : World) (hb : Below w.heap.size w w') => ht.below hb hT)
  have HK := Lib.hid hk
  clear hr ht hT hk
  go_enter Tryd.func44, Tryd.ntmps44
  go_wp2_with fail
  refine (wPieces k w (by omega)).mono ?_
  rintro e w' ⟨rfl, rfl⟩
  obtain ⟨p, hpe⟩ : ∃ p, pcN k = p := ⟨_, rfl⟩
  rw [hpe] at hp ⊢
  have HPE := Lib.hid hpe
  clear hpe
  go_wp2_with fail
  have h := put16 none [] 0 (BitVec.ofNat 16 p) w (by simp) (Rd.nil _ _)
  rw [← as16 (by omega)] at h
  refine h.mono ?_
  clear h
  rintro e w2 ⟨g2, rfl, hg2, hO2, hb2⟩
  rw [be16 (by omega)] at hO2
  simp only [List.length_nil, List.nil_append, Nat.zero_add] at hO2
  have HO2 := Lib.hid hO2
  clear hO2
  go_wp2_with fail
  have h := put32 (some ⟨g2, 0, none⟩) (num p 2) 2 (BitVec.ofNat 32 k) w2 (by simp [num_len]) HO2.out.rd
  rw [← as32 (by omega)] at h
  simp only [num_len, Nat.reduceAdd] at h
  refine h.mono ?_
  clear h
  rintro e w3 ⟨g3, rfl, hg3, hO3, hb3⟩
  rw [be32 (by omega)] at hO3
  have HO3 := Lib.hid hO3
  have hbc := hb2.trans (hb3.mono hb2.size)
  clear hO3 HO2
  go_wp2_with fail
  have h := crcSum ao s cap w3 (by rw [HK.out]; omega) (HR.out w3 hbc) (HT.out w3 hbc)
  rw [HK.out] at h
  refine h.mono ?_
  clear h
  rintro e w' ⟨rfl, rfl⟩
  go_wp2_with fail
  have h := put32 (some ⟨g3, 0, none⟩) (num p 2 ++ num k 4) 6 (Crc.sum s) w3 (by simp [num_len]) HO3.out.rd
  simp only [List.length_append, num_len, Nat.reduceAdd] at h
  refine h.mono ?_
  clear h
  rintro e w4 ⟨g4, rfl, hg4, hO4, hb4⟩
  have HO4 := Lib.hid hO4
  have hbd := hbc.trans (hb4.mono hbc.size)
  clear hO4 HO3
  have hgg : w.heap.size ≤ g4 := Nat.le_trans hbc.size hg4
  go_wp2_with fail
  go_ret
  refine ⟨g4, rfl, hgg, ?_, hbd⟩
  have h4 := HO4.out
  unfold endB sumB
  rw [HK.out, HPE.out]
  simpa [List.append_assoc] using h4
theorem wRoom0 {w W : World} {p : Nat} {L : Lay} {D : Dk} {rest : List It} (hn : 32 ≤ D.ls.length) (hn1 : D.ls.length ≤ 8192) (hB : Bag w W (dkl p L D rest)) : Calls Tryd.prog 51 #[.pointer (some ⟨p, 0, none⟩)] W fun e w' => e = .returned (.int .i64 (roomN D.ls.length : Nat)) ∧ W = w' := by
  have h := dkSectors (by omega) hB
  obtain ⟨n, hn'⟩ : ∃ n, D.ls.length = n := ⟨_, rfl⟩
  rw [hn'] at h hn hn1 ⊢
  have HR := Lib.hid (show ((roomN n : Nat) : Int) = ((n : Int) - 2) / 2 by unfold roomN; omega)
  have hd : ((n : Int) - 2).tdiv 2 = ((n : Int) - 2) / 2 := Int.tdiv_eq_ediv_of_nonneg (by omega)
  clear hB hn'
  go_enter Tryd.func51, Tryd.ntmps51
  go_wp2_with fail
  refine h.mono ?_
  clear h
  rintro e w' ⟨rfl, rfl⟩
  go_wp2_with fail
  go_ret
  exact ⟨by rw [HR.out]; rfl, rfl⟩
end Wl
end Go.Proofs.YthaiibfnjgfgjaaDoor
namespace Go.Proofs.YthaiibfnjgfgjaaDoor
open Go.RowKit
namespace Wl
/-- A log's block. -/
def lgb (lp p : Nat) (l : Lg) : It := .box lp #[.pointer (some ⟨p, 0, none⟩), .int .i64 (l.claim : Nat), .int .i64 (l.room : Nat), .int .i64 (l.epoch : Nat), .int .i64 (l.seq : Nat), .int .i64 (l.place : Nat), .bool l.safe, .bool l.ended] 78
def wl (p : Nat) (L : Lay) (D : Dk) (lp : Nat) (l : Lg) (rest : List It) : List It := dkl p L D (lgb lp p l :: rest)
section
variable {w W : World} {p lp : Nat} {L : Lay} {D : Dk} {l : Lg} {rest : List It}
theorem wlCells (h : Bag w W (wl p L D lp l rest)) : W.cell? ⟨lp, 0, none⟩ = some (.pointer (some ⟨p, 0, none⟩)) ∧ W.cell? ⟨lp, 1, none⟩ = some (.int .i64 (l.claim : Nat)) ∧ W.cell? ⟨lp, 2, none⟩ = some (.int .i64 (l.room : Nat)) ∧ W.cell? ⟨lp, 3, none⟩ = some (.int .i64 (l.epoch : Nat)) ∧ W.cell? ⟨lp, 4, none⟩ = some (.int .i64 (l.seq : Nat)) ∧ W.cell? ⟨lp, 5, none⟩ = some (.int .i64 (l.place : Nat)) ∧ W.cell? ⟨lp, 6, none⟩ = some (.bool l.safe) ∧ W.cell? ⟨lp, 7, none⟩ = some (.bool l.ended) ∧ ∀ i, W.frozen? ⟨lp, i, none⟩ = false :=
  cells8 (h.box 6 rfl)
theorem wlPut3 (h : Bag w W (wl p L D lp l rest)) (n : Nat) : Bag w (W.setCell ⟨lp, 3, none⟩ (.int .i64 (n : Nat))) (wl p L D lp { l with epoch := n } rest) := h.put 6 rfl 3 _
theorem wlPut4 (h : Bag w W (wl p L D lp l rest)) (n : Nat) : Bag w (W.setCell ⟨lp, 4, none⟩ (.int .i64 (n : Nat))) (wl p L D lp { l with seq := n } rest) := h.put 6 rfl 4 _
theorem wlPut5 (h : Bag w W (wl p L D lp l rest)) (n : Nat) : Bag w (W.setCell ⟨lp, 5, none⟩ (.int .i64 (n : Nat))) (wl p L D lp { l with place := n } rest) := h.put 6 rfl 5 _
theorem wlPut6 (h : Bag w W (wl p L D lp l rest)) (b : Bool) : Bag w (W.setCell ⟨lp, 6, none⟩ (.bool b)) (wl p L D lp { l with safe := b } rest) := h.put 6 rfl 6 _
theorem wlPut7 (h : Bag w W (wl p L D lp l rest)) (b : Bool) : Bag w (W.setCell ⟨lp, 7, none⟩ (.bool b)) (wl p L D lp { l with ended := b } rest) := h.put 6 rfl 7 _
theorem dropDk (h : Bag w W (dkl p L D rest)) : Bag w W rest := h.tail.tail.tail.tail.tail.tail
end
theorem nats_ne (a b : Nat) : (((a : Nat) : Int) != ((b : Nat) : Int)) = !(a == b) := by
  by_cases h : a = b
  · subst h; simp
  · have h1 : (((a : Nat) : Int) == ((b : Nat) : Int)) = false := by rw [beq_eq_false_iff_ne]; omega
    have h2 : (a == b) = false := by rw [beq_eq_false_iff_ne]; exact h
    simp [bne, h1, h2]
set_option maxRecDepth 20000 in
set_option maxHeartbeats 1000000 in
theorem wOver (w W : World) (p lp : Nat) (L : Lay) (D : Dk) (l : Lg) (rest : List It) (hB : Bag w W (wl p L D lp l rest)) :
   Calls Tryd.prog 43 #[.pointer (some ⟨lp, 0, none⟩)] W fun e w' => e = .returned (.bool (l.over D)) ∧ Still W w' := by
  obtain ⟨c0, c1, c2, c3, c4, c5, c6, c7, cf⟩ := wlCells hB
  have HB := Lib.hid hB
  clear hB
  clear c2 c3 c4 c5 c6
  unfold Lg.over
  cases he : l.ended with
  | true =>
    rw [he] at c7
    go_enter Tryd.func43, Tryd.ntmps43
    go_wp2_with fail
    go_quiet (fail)
    go_wp2_with fail
    go_ret
    exact ⟨rfl, ⟨_, rfl⟩⟩
  | false =>
    rw [he] at c7
    have hz := nats_ne D.claim l.claim
    generalize hv : (!(D.claim == l.claim)) = z at hz ⊢
    go_enter Tryd.func43, Tryd.ntmps43
    go_wp2_with fail
    go_quiet (first
      | (go_at_call 60; exact Calls.quiet_of_same ((dkClaimed (HB.out.drewN _)).mono (fun _ _ h => ⟨h.1, h.2.symm⟩))))
    go_wp2_with fail
    go_ret
    exact ⟨by simp, ⟨_, rfl⟩⟩
def RefR (w : World) (p lp : Nat) (L : Lay) (D : Dk) (l : Lg) (rest : List It) (x : Int) (e : Ending) (W' : World) : Prop := e = .returned (.int .i64 x) ∧ Bag w W' (wl p L D lp (l.ref x) rest)
set_option maxRecDepth 20000 in
set_option maxHeartbeats 1000000 in
theorem wRefused (w W : World) (p lp : Nat) (L : Lay) (D : Dk) (l : Lg) (rest : List It) (x : Int) (hB : Bag w W (wl p L D lp l rest)) :
   Calls Tryd.prog 69 #[.pointer (some ⟨lp, 0, none⟩), .int .i64 x] W (RefR w p lp L D l rest x) := by
  obtain ⟨c0, c1, c2, c3, c4, c5, c6, c7, cf⟩ := wlCells hB
  have hl : lp < W.heap.size := World.block_lt_of_cell? W _ c7
  have HB := Lib.hid (wlPut7 hB (l.ended || !(x == 0)))
  clear hB c0 c1 c2 c3 c4 c5 c6
  unfold RefR Lg.ref
  cases he : l.ended with
  | true =>
    rw [he] at c7 HB
    go_enter Tryd.func69, Tryd.ntmps69
    go_wp2_with fail
    go_ret
    exact ⟨rfl, HB.out⟩
  | false =>
    rw [he] at c7 HB
    have hz : (x != 0) = !(x == 0) := rfl
    simp only [Bool.false_or] at HB ⊢
    generalize hv : (!(x == 0)) = z at hz HB ⊢
    go_enter Tryd.func69, Tryd.ntmps69
    go_wp2_with fail
    go_ret
    exact ⟨rfl, HB.out⟩
def WFlushR (w : World) (p lp : Nat) (D : Dk) (l : Lg) (rest : List It) (e : Ending) (W' : World) : Prop := ∃ L', e = .returned (.int .i64 D.opE) ∧ Bag w W' (wl p L' D.flushD lp (l.ref D.opE) rest)
set_option maxRecDepth 20000 in
set_option maxHeartbeats 1000000 in
theorem wFlush (w W : World) (p lp : Nat) (L : Lay) (D : Dk) (l : Lg) (rest : List It) (m : Nat) (hw : D.Wf m) (hm : m ≤ 1000000000000) (hf : D.fs.length ≤ 1000000000000000) (hB : Bag w W (wl p L D lp l rest)) :
   Calls Tryd.prog 55 #[.pointer (some ⟨lp, 0, none⟩)] W (WFlushR w p lp D l rest) := by
  obtain ⟨c0, c1, c2, c3, c4, c5, c6, c7, cf⟩ := wlCells hB
  have h := dkFlush w W p L D _ m hw hm hf hB
  clear hB c1 c2 c3 c4 c5 c6 c7 hw
  go_enter Tryd.func55, Tryd.ntmps55
  go_wp2_with fail
  refine h.mono ?_
  clear h
  rintro e W1 ⟨L1, rfl, hB⟩
  obtain ⟨x, hx⟩ : ∃ x, D.opE = x := ⟨_, rfl⟩
  have HX := Lib.hid hx
  rw [hx]
  have HB := Lib.hid hB
  clear hB c0 cf hx
  go_wp2_with fail
  refine (wRefused w W1 p lp L1 D.flushD l rest x HB.out).mono ?_
  rintro e W2 ⟨rfl, hB⟩
  have HB2 := Lib.hid hB
  clear hB HB
  go_wp2_with fail
  go_ret
  exact ⟨L1, by rw [HX.out]; rfl, by rw [HX.out]; exact HB2.out⟩
theorem putYes5 (T : By) (E Q P : Int) (B : By) (ao : Option Addr) (N cap : Nat) (w : World) (hN : B.length = N) (hm : Sec.may ⟨T, E, Q, P, B⟩ = true) (hr : Rd w ao B) (ht : Tab w) (hT : 0 < w.heap.size) :
   Calls Tryd.prog 71 #[.agg #[.string (str T), .int .i64 E, .int .i64 Q, .int .i64 P, .slice ao N cap]] w fun e w' => ∃ g c, e = .returned (.tuple #[.slice (some ⟨g, 0, none⟩) 512 c, .int .i64 0]) ∧ w.heap.size ≤ g ∧ 512 ≤ c ∧ Own w' g c 5 (Sec.bytes ⟨T, E, Q, P, B⟩) ∧ Below w.heap.size w w' := by
  subst hN
  have h := may_iff.1 hm
  simp only at h
  exact putYes ⟨T, E, Q, P, B⟩ ao cap w hm ⟨by simp only; omega, by simp only; omega, by simp only; omega, by simp only; omega, by simp only; omega, by simp only; omega, by simp only; omega⟩ hr ht hT
def PutR (w : World) (p : Nat) (D : Dk) (rest : List It) (a : Nat) (S : Sec) (e : Ending) (W' : World) : Prop := ∃ L', e = .returned (.int .i64 (wrE D a S)) ∧ Bag w W' (dkl p L' (wrD D a S) rest)
set_option maxRecDepth 20000 in
set_option maxHeartbeats 1000000 in
theorem wPut (w W : World) (p : Nat) (L : Lay) (D : Dk) (rest : List It) (m a : Nat) (T : By) (E Q P : Int) (B : By) (ao : Option Addr) (N cap : Nat) (hN : B.length = N) (hS : Sec.may ⟨T, E, Q, P, B⟩ = true) (ha : a ≤ 8192) (hw : D.Wf m) (hm : m ≤ 1000000000000) (hf : D.fs.length ≤ 1000000000000000)
   (hr : Rd W ao B) (ht : Tab w) (hT : 0 < w.heap.size) (hB : Bag w W (dkl p L D rest)) :
   Calls Tryd.prog 58 #[.pointer (some ⟨p, 0, none⟩), .int .i64 (a : Nat), .agg #[.string (str T), .int .i64 E, .int .i64 Q, .int .i64 P, .slice ao N cap]] W (PutR w p D rest a ⟨T, E, Q, P, B⟩) := by
  have hTW : Tab W := ht.below hB.below hT
  have hTL : 0 < W.heap.size := Nat.lt_of_lt_of_le hT hB.below.size
  have HS := Lib.hid hS
  have HN := Lib.hid hN
  have HW := Lib.hid hw
  have HB0 := Lib.hid hB
  have HPut := Lib.hid (fun (W' : World) (hb : Below W.heap.size W W') => putYes5 T E Q P B ao N cap W' hN hS (hr.on hb) (hTW.below hb hTL) (Nat.lt_of_lt_of_le hTL hb.size))
  clear hS hN hw hB hr ht hT hTW hTL
  go_enter Tryd.func58, Tryd.ntmps58
  go_wp2_with fail
  generalize hU : W.alloc (.cells #[.string (str T), .int .i64 E, .int .i64 Q, .int .i64 P, .slice ao N cap] 33 (0, 0)) = U
  have hbU : Below W.heap.size W U := by rw [← hU]; exact (Below.refl _ W).alloc (Nat.le_refl _) _
  have HB := Lib.hid (HB0.out.call hbU)
  refine (HPut.out U hbU).mono ?_
  clear HB0 HPut hU hbU
  rintro e W1 ⟨g, c, rfl, hg, hc, hO, hb⟩
  have HB1 := Lib.hid (dkl_in (HB.out.own hb hO hg))
  clear HB hg hO hb
  go_wp2_with fail
  refine (dkWrite w W1 p L D _ m (a : Int) (some ⟨g, 0, none⟩) (Sec.bytes ⟨T, E, Q, P, B⟩) 512 c (bytes_len HS.out) HW.out hm hf (by omega) (by omega) (fun W' D' h => h.mineRd 6 rfl) HB1.out).mono ?_
  rintro e W2 ⟨L2, rfl, hB2⟩
  have HB2 := Lib.hid (dkl_out hB2).tail
  clear hB2 HB1
  obtain ⟨x, hx⟩ : ∃ x, D.writeE (a : Int) (Sec.bytes ⟨T, E, Q, P, B⟩) = x := ⟨_, rfl⟩
  rw [hx]
  have HX := Lib.hid (show wrE D a ⟨T, E, Q, P, B⟩ = x from hx)
  clear hx
  go_wp2_with fail
  go_ret
  exact ⟨L2, by rw [HX.out]; rfl, HB2.out⟩
def WWriteR (w : World) (p lp : Nat) (D : Dk) (l : Lg) (rest : List It) (a : Nat) (S : Sec) (e : Ending) (W' : World) : Prop := ∃ L', e = .returned (.int .i64 (wrE D a S)) ∧ Bag w W' (wl p L' (wrD D a S) lp (l.ref (wrE D a S)) rest)
set_option maxRecDepth 20000 in
set_option maxHeartbeats 1000000 in
theorem wWrite (w W : World) (p lp : Nat) (L : Lay) (D : Dk) (l : Lg) (rest : List It) (m a : Nat) (T : By) (E Q P : Int) (B : By) (ao : Option Addr) (N cap : Nat) (hN : B.length = N) (hS : Sec.may ⟨T, E, Q, P, B⟩ = true) (ha : a ≤ 8192) (hw : D.Wf m) (hm : m ≤ 1000000000000) (hf : D.fs.length ≤ 1000000000000000)
   (hr : Rd W ao B) (ht : Tab w) (hT : 0 < w.heap.size) (hB : Bag w W (wl p L D lp l rest)) :
   Calls Tryd.prog 65 #[.pointer (some ⟨lp, 0, none⟩), .int .i64 (a : Nat), .agg #[.string (str T), .int .i64 E, .int .i64 Q, .int .i64 P, .slice ao N cap]] W (WWriteR w p lp D l rest a ⟨T, E, Q, P, B⟩) := by
  obtain ⟨c0, c1, c2, c3, c4, c5, c6, c7, cf⟩ := wlCells hB
  have hl : lp < W.heap.size := World.block_lt_of_cell? W _ c7
  have HPut := Lib.hid (fun (W' : World) (hb : Below W.heap.size W W') => wPut w W' p L D _ m a T E Q P B ao N cap hN hS ha hw hm hf (hr.on hb) ht hT (hB.call hb))
  clear c1 c2 c3 c4 c5 c6 c7 hB hN hS hw hm hf hr ht hT
  obtain ⟨x, hx⟩ : ∃ x, wrE D a ⟨T, E, Q, P, B⟩ = x := ⟨_, rfl⟩
  have HX := Lib.hid hx
  clear hx
  go_enter Tryd.func65, Tryd.ntmps65
  go_wp2_with fail
  go_region_law (first
    | (go_simp; go_at_call 58; refine (HPut.out _ ?_).mono ?_; exact ((Below.refl _ W).alloc (Nat.le_refl _) _).drew; rintro e W3 ⟨L3, rfl, hB3⟩; rw [HX.out]; have HB3 := Lib.hid hB3; clear hB3)
    | (go_simp; go_at_call 69; refine (wRefused w _ p lp L3 (wrD D a ⟨T, E, Q, P, B⟩) l rest x HB3.out).mono ?_; rintro e W4 ⟨rfl, hB4⟩; have HB4 := Lib.hid hB4; clear hB4))
  all_goals
    go_wp2_with fail
    go_ret
    exact ⟨L3, by rw [HX.out]; rfl, by rw [HX.out]; exact HB4.out⟩
end Wl
end Go.Proofs.YthaiibfnjgfgjaaDoor
namespace Go.Proofs.YthaiibfnjgfgjaaDoor
open Go.RowKit
namespace Wl
theorem ref_zero (l : Lg) : l.ref 0 = l := by
  obtain ⟨a, b, c, d, e, f, g⟩ := l
  simp [Lg.ref]
theorem wrD_wf {D : Dk} {m : Nat} (h : D.Wf m) (a : Nat) (S : Sec) : (wrD D a S).Wf (m + 1) := h.write _ _
theorem wrD_fs (D : Dk) (a : Nat) (S : Sec) : (wrD D a S).fs = D.fs := by
  unfold wrD Dk.writeD
  split
  · split
    · split
      · exact D.opD_fs
      · exact D.opD_fs
    · rfl
  · rfl
theorem piecesP_succ (room seq epoch place : Nat) (b : By) (k i : Nat) (D : Dk) : piecesP room seq epoch place b (k + 1) i D = if wrE D (startN epoch room + place + i) (secAt tagD epoch seq (place + i) (pieceB b i)) = 0 then piecesP room seq epoch place b k (i + 1) (wrD D (startN epoch room + place + i) (secAt tagD epoch seq (place + i) (pieceB b i))) else (wrD D (startN epoch room + place + i) (secAt tagD epoch seq (place + i) (pieceB b i)), wrE D (startN epoch room + place + i) (secAt tagD epoch seq (place + i) (pieceB b i))) := rfl
def PcsR (w : World) (p lp : Nat) (l : Lg) (rest : List It) (R : Dk × Int) (e : Ending) (W' : World) : Prop := ∃ L', e = .returned (.int .i64 R.2) ∧ Bag w W' (wl p L' R.1 lp (l.ref R.2) rest)
set_option maxRecDepth 20000 in
set_option maxHeartbeats 2000000 in
theorem wPcs (w W : World) (p lp : Nat) (L : Lay) (D : Dk) (l : Lg) (rest : List It) (m epoch place : Nat) (b : By) (ao : Option Addr) (n cap : Nat) (hn : b.length = n) (hn1 : n ≤ 1000000000000) (hc : n ≤ cap)
   (hS : ∀ i, i < pcN n → (secAt tagD epoch l.seq (place + i) (pieceB b i)).may = true) (ha : ∀ i, i < pcN n → startN epoch l.room + place + i ≤ 8192) (he : epoch ≤ 4611686018427387904) (_hq : l.seq ≤ 4611686018427387904) (hrm : l.room ≤ 4095) (hpl : place ≤ 4095) (hK : pcN n ≤ 4095)
   (hw : D.Wf m) (hm : m ≤ 500000000000) (hf : D.fs.length ≤ 1000000000000000) (hr : ∀ W', Bag w W' rest → Rd W' ao b) (ht : Tab w) (hT : 0 < w.heap.size) (hB : Bag w W (wl p L D lp l rest)) :
   Calls Tryd.prog 45 #[.pointer (some ⟨lp, 0, none⟩), .int .i64 (epoch : Nat), .int .i64 (place : Nat), .slice ao n cap] W (PcsR w p lp l rest (piecesP l.room l.seq epoch place b (pcN n) 0 D)) := by
  have HB := Lib.hid hB
  have HN := Lib.hid hn
  have HS := Lib.hid hS
  have HA := Lib.hid ha
  have HW := Lib.hid hw
  have HR := Lib.hid hr
  have HT := Lib.hid (And.intro ht hT)
  clear hB hn hS ha hw hr ht hT
  obtain ⟨R, hR⟩ : ∃ R, piecesP l.room l.seq epoch place b (pcN n) 0 D = R := ⟨_, rfl⟩
  rw [hR]
  obtain ⟨K, hKe⟩ : ∃ K, pcN n = K := ⟨_, rfl⟩
  rw [hKe] at hK hR
  have hPc := wPieces n W (by omega)
  rw [hKe] at hPc
  have HKE := Lib.hid hKe
  have HRR := Lib.hid hR
  clear hKe hR
  go_enter Tryd.func45, Tryd.ntmps45
  go_wp2_with fail
  refine hPc.mono ?_
  clear hPc
  rintro e w' ⟨rfl, rfl⟩
  go_wp2_with fail
  go_loopw [15] (fun t wr => ∃ (i : Nat) (D' : Dk) (L' : Lay), i ≤ K ∧ t = .int .i64 i ∧ D'.Wf (m + i) ∧ D'.fs = D.fs ∧ piecesP l.room l.seq epoch place b (K - i) i D' = R ∧ Bag w wr (wl p L' D' lp l rest)) (fun t _ => K - (intOf t).toNat)
  case atStart => exact ⟨0, D, L, Nat.zero_le _, rfl, HW.out, rfl, HRR.out, HB.out⟩
  case round =>
    obtain ⟨i, D', L', hi, rfl, hW, hF, hP, hB⟩ := hrel
    clear HB
    have HB := Lib.hid hB
    have HW' := Lib.hid hW
    have HF := Lib.hid hF
    have HP := Lib.hid hP
    clear hB hW hF hP
    by_cases hlt : i < K
    · obtain ⟨c0, c1, c2, c3, c4, c5, c6, c7, cf⟩ := wlCells HB.out
      have hl : lp < wr.heap.size := World.block_lt_of_cell? wr _ c7
      have hSi := HS.out i (by rw [HKE.out]; exact hlt)
      have hpc := fun (u : World) => wPiece ao b n cap i u HN.out (by omega) hc (by rw [HKE.out]; exact hlt)
      have hx1 : IntKind.i64.wrap ((place : Int) + (i : Int)) = ((place + i : Nat) : Int) := by rw [wrapI64 _ (by omega) (by omega)]; omega
      have HSI := Lib.hid hSi
      have HPC := Lib.hid hpc
      clear hSi hpc c0 c1 c3 c5 c6 c7
      go_wp2_with fail
      go_region_with (go_at_call 64; refine (HPC.out _).mono ?_; rintro e w' ⟨rfl, hw⟩; obtain rfl := hw)
      all_goals
        rw [lit_D]
        have hal := HA.out i (by rw [HKE.out]; exact hlt)
        obtain ⟨st, hst⟩ : ∃ st, startN epoch l.room = st := ⟨_, rfl⟩
        have hS0 := fun (u : World) => wStart' epoch l.room u he hrm
        obtain ⟨pl, hpl'⟩ : ∃ pl, place + i = pl := ⟨_, rfl⟩
        obtain ⟨B, hBe⟩ : ∃ B, pieceB b i = B := ⟨_, rfl⟩
        obtain ⟨N, hNe⟩ : ∃ N, B.length = N := ⟨_, rfl⟩
        obtain ⟨ar, har⟩ : ∃ ar, cutAt ao cap (i * 480) = ar := ⟨_, rfl⟩
        have hrd := fun (W' : World) (h : Bag w W' rest) => piece_rd (i := i) (cap := cap) (HR.out W' h) (by rw [HN.out]; exact hc) (by rw [HN.out, HKE.out]; exact hlt)
        rw [hst] at hal hS0
        rw [hBe] at hrd ⊢
        rw [har] at hrd ⊢
        have hpi : (place : Int) + (i : Int) = (pl : Int) := by omega
        rw [hpi, hNe]
        clear hpi
        have HSX := Lib.hid (show Sec.may ⟨tD, (epoch : Int), (l.seq : Int), (pl : Int), B⟩ = true by have := HSI.out; rw [hpl', hBe] at this; exact this)
        have HNE := Lib.hid hNe
        have HRD := Lib.hid hrd
        have HS0 := Lib.hid hS0
        have HST := Lib.hid hst
        have HPL := Lib.hid hpl'
        have HBE := Lib.hid hBe
        generalize hV : (wr.alloc (.cells #[.string (str tD), .int .i64 (epoch : Nat), .int .i64 (l.seq : Nat), .int .i64 (pl : Nat), .slice ar N (cap - i * 480)] 33 (0, 0))).drew = V
        have hbV : Below wr.heap.size wr V := by rw [← hV]; exact ((Below.refl _ wr).alloc (Nat.le_refl _) _).drew
        have hxV : V.heap[wr.heap.size]? = some (.cells #[.string (str tD), .int .i64 (epoch : Nat), .int .i64 (l.seq : Nat), .int .i64 (pl : Nat), .slice ar N (cap - i * 480)] 33 (0, 0)) := by rw [← hV]; exact heap_alloc_new wr _
        obtain ⟨q0, q1, q2, q3, q4, qf⟩ := cells5 hxV
        have HBV := Lib.hid (HB.out.call hbV)
        obtain ⟨c0, c1, c2, c3, c4, c5, c6, c7, cf⟩ := wlCells HBV.out
        obtain ⟨z, hze⟩ : ∃ z, st + place = z := ⟨_, rfl⟩
        obtain ⟨a, hae⟩ : ∃ a, z + i = a := ⟨_, rfl⟩
        have hAE : st + place + i = a := by omega
        have HAE := Lib.hid hAE
        rw [hAE] at hal
        have hz1 : (st : Int) + (place : Int) = (z : Int) := by omega
        have hz2 : (z : Int) + (i : Int) = (a : Int) := by omega
        have hy1 : IntKind.i64.wrap (z : Int) = (z : Int) := wrapI64 _ (by omega) (by omega)
        have hy2 : IntKind.i64.wrap (a : Int) = (a : Int) := wrapI64 _ (by omega) (by omega)
        obtain ⟨x, hx⟩ : ∃ x, wrE D' a ⟨tD, (epoch : Int), (l.seq : Int), (pl : Int), B⟩ = x := ⟨_, rfl⟩
        have HX := Lib.hid hx
        have hstep : (if wrE D' a ⟨tD, (epoch : Int), (l.seq : Int), (pl : Int), B⟩ = 0 then piecesP l.room l.seq epoch place b (K - (i + 1)) (i + 1) (wrD D' a ⟨tD, (epoch : Int), (l.seq : Int), (pl : Int), B⟩) else (wrD D' a ⟨tD, (epoch : Int), (l.seq : Int), (pl : Int), B⟩, wrE D' a ⟨tD, (epoch : Int), (l.seq : Int), (pl : Int), B⟩)) = R := by
          have h := HP.out
          rw [show K - i = (K - (i + 1)) + 1 by omega, piecesP_succ, HST.out, hAE, HPL.out, HBE.out] at h
          exact h
        rw [hx] at hstep
        have HSTEP := Lib.hid hstep
        clear hstep
        clear hV hbV hxV hNe hrd hS0 hst hpl' hBe har hx hx1 hze hae hAE c1 c3 c4 c5 c6 c7
        go_wp2_with fail
        refine wp_region_still_tail 12 (by kernel_rfl) (by kernel_rfl) ?_
        simp only [List.take_succ_cons, List.take_zero, List.drop_succ_cons, List.drop_zero]
        repeat still_step
        still_call (HS0.out V.drew)
        repeat still_step
        refine wpStill_nil ?_
        change wpList _ _ _ _ _ V.drew
        go_wp2_with fail
        refine (wWrite w _ p lp L' D' l rest (m + i) a tD _ _ _ B ar N (cap - i * 480) HNE.out HSX.out hal HW'.out (by omega) (by rw [HF.out]; exact hf) (HRD.out _ (dropDk HBV.out.drew).tail) HT.out.1 HT.out.2 HBV.out.drew).mono ?_
        rintro e W3 ⟨L3, rfl, hB3⟩
        rw [HX.out]
        have HB3 := Lib.hid hB3
        clear hB3
        all_goals
          by_cases hx0 : x = 0
          · subst hx0
            have HSTEP2 := Lib.hid (HSTEP.out.symm.trans (if_pos rfl)).symm
            have HB4 := Lib.hid (show Bag w W3 (wl p L3 (wrD D' a ⟨tD, (epoch : Int), (l.seq : Int), (pl : Int), B⟩) lp l rest) by have h := HB3.out; rw [HX.out, ref_zero] at h; exact h)
            have HW4 := Lib.hid (wrD_wf HW'.out a ⟨tD, (epoch : Int), (l.seq : Int), (pl : Int), B⟩)
            have HF4 := Lib.hid (wrD_fs D' a ⟨tD, (epoch : Int), (l.seq : Int), (pl : Int), B⟩)
            clear HSTEP HB3 HBV HSX
            go_wp2_with fail
            go_roundw
            case rel => exact ⟨i + 1, _, L3, by omega, by go_num, HW4.out, HF4.out.trans HF.out, HSTEP2.out, HB4.out⟩
            case measure => simp [intOf]; omega
          · have hne : (x != 0) = true := by rw [bne_iff_ne]; exact hx0
            have HSTEP2 := Lib.hid (HSTEP.out.symm.trans (if_neg hx0)).symm
            clear HSTEP hx0
            go_wp2_with fail
            go_ret
            refine ⟨L3, ?_, ?_⟩
            · rw [← HSTEP2.out]; rfl
            · rw [← HSTEP2.out]; have h := HB3.out; rw [HX.out] at h; exact h
    · obtain rfl : i = K := by omega
      have HP2 := Lib.hid (show (D'.flushD, D'.opE) = R by have h := HP.out; rw [Nat.sub_self] at h; exact h)
      have hfl := wFlush w wr p lp L' D' l rest (m + i) HW'.out (by omega) (by rw [HF.out]; exact hf) HB.out
      clear HP
      go_wp2_with fail
      refine hfl.mono ?_
      clear hfl
      rintro e W3 ⟨L3, rfl, hB3⟩
      have HB3 := Lib.hid hB3
      clear hB3
      go_wp2_with fail
      go_ret
      refine ⟨L3, ?_, ?_⟩
      · rw [← HP2.out] <;> rfl
      · rw [← HP2.out]; exact HB3.out
end Wl
end Go.Proofs.YthaiibfnjgfgjaaDoor
namespace Go.Proofs.YthaiibfnjgfgjaaDoor
open Go.RowKit
namespace Wl
theorem ref_ref (l : Lg) (e : Int) (_h : e ≠ 0) : (l.ref 0).ref e = l.ref e := by rw [ref_zero]
set_option maxRecDepth 20000 in
set_option maxHeartbeats 1000000 in
theorem wLast (w W : World) (p lp : Nat) (L : Lay) (D : Dk) (l : Lg) (rest : List It) (m a : Nat) (T : By) (E Q P : Int) (B : By) (ao : Option Addr) (N cap : Nat) (hN : B.length = N) (hS : Sec.may ⟨T, E, Q, P, B⟩ = true) (ha : a ≤ 8192) (hw : D.Wf m) (hm : m ≤ 500000000000) (hf : D.fs.length ≤ 1000000000000000)
   (hr : Rd W ao B) (ht : Tab w) (hT : 0 < w.heap.size) (hB : Bag w W (wl p L D lp l rest)) :
   Calls Tryd.prog 46 #[.pointer (some ⟨lp, 0, none⟩), .int .i64 (a : Nat), .agg #[.string (str T), .int .i64 E, .int .i64 Q, .int .i64 P, .slice ao N cap]] W (PcsR w p lp l rest (lastP D a ⟨T, E, Q, P, B⟩)) := by
  have HWr := Lib.hid (fun (W' : World) (hb : Below W.heap.size W W') => wWrite w W' p lp L D l rest m a T E Q P B ao N cap hN hS ha hw (by omega) hf (hr.on hb) ht hT (hB.call hb))
  have HFl := Lib.hid (fun (W' : World) (L' : Lay) (h : Bag w W' (wl p L' (wrD D a ⟨T, E, Q, P, B⟩) lp l rest)) => wFlush w W' p lp L' (wrD D a ⟨T, E, Q, P, B⟩) l rest (m + 1) (wrD_wf hw a _) (by omega) (by rw [wrD_fs]; exact hf) h)
  obtain ⟨x, hx⟩ : ∃ x, wrE D a ⟨T, E, Q, P, B⟩ = x := ⟨_, rfl⟩
  obtain ⟨R, hR⟩ : ∃ R, lastP D a ⟨T, E, Q, P, B⟩ = R := ⟨_, rfl⟩
  have HRR := Lib.hid (show (if x = 0 then ((wrD D a ⟨T, E, Q, P, B⟩).flushD, (wrD D a ⟨T, E, Q, P, B⟩).opE) else (wrD D a ⟨T, E, Q, P, B⟩, x)) = R by rw [← hR, ← hx]; rfl)
  rw [hR]
  have HX := Lib.hid hx
  clear hN hS hw hf hr ht hT hB hx hR
  go_enter Tryd.func46, Tryd.ntmps46
  go_wp2_with fail
  refine (HWr.out _ ((Below.refl _ W).alloc (Nat.le_refl _) _)).mono ?_
  clear HWr
  rintro e W1 ⟨L1, rfl, hB1⟩
  rw [HX.out]
  have HB1 := Lib.hid (show Bag w W1 (wl p L1 (wrD D a ⟨T, E, Q, P, B⟩) lp (l.ref x) rest) by rw [HX.out] at hB1; exact hB1)
  clear hB1
  by_cases hx0 : x = 0
  · subst hx0
    have HR2 := Lib.hid ((if_pos rfl).symm.trans HRR.out)
    have HB2 := Lib.hid (show Bag w W1 (wl p L1 (wrD D a ⟨T, E, Q, P, B⟩) lp l rest) by have h := HB1.out; rw [ref_zero] at h; exact h)
    clear HRR HB1
    go_wp2_with fail
    refine (HFl.out W1 L1 HB2.out).mono ?_
    clear HFl
    rintro e W3 ⟨L3, rfl, hB3⟩
    have HB3 := Lib.hid hB3
    clear hB3
    go_wp2_with fail
    go_ret
    refine ⟨L3, ?_, ?_⟩
    · rw [← HR2.out] <;> rfl
    · rw [← HR2.out]; exact HB3.out
  · have hne : (x != 0) = true := by rw [bne_iff_ne]; exact hx0
    have HR2 := Lib.hid ((if_neg hx0).symm.trans HRR.out)
    clear HRR hx0 HFl
    go_wp2_with fail
    go_ret
    refine ⟨L1, ?_, ?_⟩
    · rw [← HR2.out] <;> rfl
    · rw [← HR2.out]; exact HB1.out
def SafeR (w : World) (p lp : Nat) (rest : List It) (A : Ans) (e : Ending) (W' : World) : Prop := ∃ L', e = .returned (.int .i64 A.e) ∧ Bag w W' (wl p L' A.D lp A.l rest)
set_option maxRecDepth 20000 in
set_option maxHeartbeats 1000000 in
theorem wSafe (w W : World) (p lp : Nat) (L : Lay) (D : Dk) (l : Lg) (rest : List It) (m : Nat) (hw : D.Wf m) (hm : m ≤ 500000000000) (hf : D.fs.length ≤ 1000000000000000) (hB : Bag w W (wl p L D lp l rest)) :
   Calls Tryd.prog 31 #[.pointer (some ⟨lp, 0, none⟩)] W (SafeR w p lp rest (safeP D l)) := by
  obtain ⟨A, hA⟩ : ∃ A, safeP D l = A := ⟨_, rfl⟩
  rw [hA]
  have ho := wOver w W p lp L D l rest hB
  have HFl := Lib.hid (fun (W' : World) (h : Bag w W' (wl p L D lp l rest)) => wFlush w W' p lp L D l rest m hw (by omega) hf h)
  have HB := Lib.hid hB
  unfold safeP at hA
  have HA := Lib.hid hA
  clear hw hf hB hA
  go_enter Tryd.func31, Tryd.ntmps31
  go_wp2_with fail
  refine ho.mono ?_
  clear ho
  rintro e W1 ⟨rfl, hst⟩
  have HB1 := Lib.hid (HB.out.still hst)
  clear hst HB
  cases hov : l.over D with
  | true =>
    have HA2 := Lib.hid (show (⟨D, l, 115⟩ : Ans) = A by have h := HA.out; rw [hov, if_pos rfl] at h; exact h)
    clear HA hov
    go_wp2_with fail
    go_ret
    refine ⟨L, ?_, ?_⟩
    · rw [← HA2.out]; rfl
    · rw [← HA2.out]; exact HB1.out
  | false =>
    obtain ⟨_, _, _, _, _, _, c6, _, cf⟩ := wlCells HB1.out
    cases hs : l.safe with
    | true =>
      rw [hs] at c6
      have HA2 := Lib.hid (show (⟨D, l, 0⟩ : Ans) = A by have h := HA.out; rw [hov, hs, if_neg (by simp), if_pos rfl] at h; exact h)
      clear HA hov hs
      go_wp2_with fail
      go_ret
      refine ⟨L, ?_, ?_⟩
      · rw [← HA2.out]; rfl
      · rw [← HA2.out]; exact HB1.out
    | false =>
      rw [hs] at c6
      have HA2 := Lib.hid (show (⟨D.flushD, { l.ref D.opE with safe := D.opE == 0 }, D.opE⟩ : Ans) = A by have h := HA.out; rw [hov, hs, if_neg (by simp), if_neg (by simp)] at h; exact h)
      clear HA hov hs
      go_wp2_with fail
      refine (HFl.out W1 HB1.out).mono ?_
      clear HFl c6 cf HB1
      rintro e W2 ⟨L2, rfl, hB2⟩
      obtain ⟨x, hx⟩ : ∃ x, D.opE = x := ⟨_, rfl⟩
      rw [hx] at hB2 HA2 ⊢
      clear hx
      obtain ⟨y, hy⟩ : ∃ y, (x == 0) = y := ⟨_, rfl⟩
      obtain ⟨_, _, _, _, _, _, c6, _, cf⟩ := wlCells hB2
      have hl : lp < W2.heap.size := World.block_lt_of_cell? W2 _ c6
      have HB3 := Lib.hid (wlPut6 hB2 y)
      clear hB2
      rw [hy] at HA2
      go_wp2_with fail
      go_ret
      refine ⟨L2, ?_, ?_⟩
      · rw [← HA2.out]; rfl
      · rw [← HA2.out]; exact HB3.out
/-- What State, Left, Room tell. -/
def stateV (D : Dk) (l : Lg) : Value := if l.over D then .tuple #[.int .i64 0, .int .i64 0, .int .i64 0] else .tuple #[.int .i64 (l.epoch : Nat), .int .i64 (l.seq : Nat), .int .i64 (l.place : Nat)]
def leftN (D : Dk) (l : Lg) : Nat := if l.over D then 0 else l.room - l.place
def roomL (D : Dk) (l : Lg) : Nat := if l.over D then 0 else l.room
theorem wState (w W : World) (p lp : Nat) (L : Lay) (D : Dk) (l : Lg) (rest : List It) (hB : Bag w W (wl p L D lp l rest)) :
   Calls Tryd.prog 22 #[.pointer (some ⟨lp, 0, none⟩)] W fun e w' => e = .returned (stateV D l) ∧ Still W w' := by
  have ho := wOver w W p lp L D l rest hB
  have HB := Lib.hid hB
  clear hB
  go_enter Tryd.func22, Tryd.ntmps22
  go_wp2_with fail
  refine ho.mono ?_
  clear ho
  rintro e W1 ⟨rfl, hst⟩
  cases hov : l.over D with
  | true =>
    have HV := Lib.hid (show stateV D l = _ from if_pos hov)
    clear hov
    go_wp2_with fail
    go_ret3
    exact ⟨by rw [HV.out]; rfl, hst⟩
  | false =>
    have HV := Lib.hid (show stateV D l = _ from if_neg (by rw [hov]; simp))
    clear hov
    obtain ⟨_, _, _, c3, c4, c5, _, _, cf⟩ := wlCells (HB.out.still hst)
    go_wp2_with fail
    go_quiet (fail)
    go_wp2_with fail
    go_ret3
    exact ⟨by rw [HV.out]; rfl, hst.trans ⟨_, rfl⟩⟩
theorem wLeft (w W : World) (p lp : Nat) (L : Lay) (D : Dk) (l : Lg) (rest : List It) (hp : l.place ≤ l.room) (hr : l.room ≤ 4095) (hB : Bag w W (wl p L D lp l rest)) :
   Calls Tryd.prog 23 #[.pointer (some ⟨lp, 0, none⟩)] W fun e w' => e = .returned (.int .i64 (leftN D l : Nat)) ∧ Still W w' := by
  have ho := wOver w W p lp L D l rest hB
  have HB := Lib.hid hB
  have HV := Lib.hid (show ((l.room - l.place : Nat) : Int) = (l.room : Int) - (l.place : Int) by omega)
  clear hB
  go_enter Tryd.func23, Tryd.ntmps23
  go_wp2_with fail
  refine ho.mono ?_
  clear ho
  rintro e W1 ⟨rfl, hst⟩
  cases hov : l.over D with
  | true =>
    have HX := Lib.hid (show leftN D l = 0 from if_pos hov)
    clear hov
    go_wp2_with fail
    go_ret
    exact ⟨by rw [HX.out]; rfl, hst⟩
  | false =>
    have HX := Lib.hid (show leftN D l = l.room - l.place from if_neg (by rw [hov]; simp))
    clear hov
    obtain ⟨_, _, c2, _, _, c5, _, _, cf⟩ := wlCells (HB.out.still hst)
    go_wp2_with fail
    go_quiet (fail)
    go_wp2_with fail
    go_ret
    exact ⟨by rw [HX.out, HV.out]; rfl, hst.trans ⟨_, rfl⟩⟩
theorem wRoom (w W : World) (p lp : Nat) (L : Lay) (D : Dk) (l : Lg) (rest : List It) (hB : Bag w W (wl p L D lp l rest)) :
   Calls Tryd.prog 24 #[.pointer (some ⟨lp, 0, none⟩)] W fun e w' => e = .returned (.int .i64 (roomL D l : Nat)) ∧ Still W w' := by
  have ho := wOver w W p lp L D l rest hB
  have HB := Lib.hid hB
  clear hB
  go_enter Tryd.func24, Tryd.ntmps24
  go_wp2_with fail
  refine ho.mono ?_
  clear ho
  rintro e W1 ⟨rfl, hst⟩
  cases hov : l.over D with
  | true =>
    have HX := Lib.hid (show roomL D l = 0 from if_pos hov)
    clear hov
    go_wp2_with fail
    go_ret
    exact ⟨by rw [HX.out]; rfl, hst⟩
  | false =>
    have HX := Lib.hid (show roomL D l = l.room from if_neg (by rw [hov]; simp))
    clear hov
    obtain ⟨_, _, c2, _, _, _, _, _, cf⟩ := wlCells (HB.out.still hst)
    go_wp2_with fail
    go_ret
    exact ⟨by rw [HX.out]; rfl, hst⟩
end Wl
end Go.Proofs.YthaiibfnjgfgjaaDoor
