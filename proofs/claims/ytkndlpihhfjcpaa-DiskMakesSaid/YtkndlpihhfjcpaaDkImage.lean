/- The program's device: Image. The program's device: Image of bytes that may be. -/
import Derived.Test.YtkndlpihhfjcpaaDkTell
import Derived.Test.YtkndlpihhfjcpaaCut
namespace Go.Proofs.Ytkndlpihhfjcpaa
open Go.RowKit
def Dk.image (b : List (BitVec 8)) (n : Nat) : Dk := ⟨(List.range n).map (Dk.chunk b), [], false, 0, 0, []⟩
theorem Dk.chunk_len {b : List (BitVec 8)} {j n : Nat} (h : b.length = n * 512) (hj : j < n) : (Dk.chunk b j).length = 512 := by
  unfold Dk.chunk
  rw [List.length_take, List.length_drop, h]
  omega
theorem Dk.Wf.image {b : List (BitVec 8)} {n : Nat} (m : Nat) (h : b.length = n * 512) (h0 : 1 ≤ n) (h1 : n ≤ 8192) : Dk.Wf (Dk.image b n) m := by
  refine ⟨by simp [Dk.image]; exact h0, by simp [Dk.image]; exact h1, ?_, by simp [Dk.image], by simp [Dk.image], by simp [Dk.image], by simp [Dk.image], by simp [Dk.image]⟩
  intro l hl
  simp only [Dk.image, List.mem_map, List.mem_range] at hl
  obtain ⟨j, hj, rfl⟩ := hl
  exact Dk.chunk_len h hj
/-- Half made: the first j sectors are there. -/
def Dk.half (b : List (BitVec 8)) (n j : Nat) : Dk := ⟨(List.range j).map (Dk.chunk b) ++ List.replicate (n - j) Dk.zs, [], false, 0, 0, []⟩
theorem half_zero (b : List (BitVec 8)) (n : Nat) : Dk.half b n 0 = Dk.new n := by simp [Dk.half, Dk.new]
theorem half_all (b : List (BitVec 8)) (n : Nat) : Dk.half b n n = Dk.image b n := by simp [Dk.half, Dk.image]
theorem half_len {b : List (BitVec 8)} {n j : Nat} (h : j ≤ n) : (Dk.half b n j).ls.length = n := by simp [Dk.half]; omega
theorem half_at {b : List (BitVec 8)} {n j : Nat} (h : j < n) : (Dk.half b n j).ls[j]? = some Dk.zs := by
  unfold Dk.half
  simp only
  rw [List.getElem?_append_right (by simp)]
  simp [List.getElem?_replicate]
  omega
theorem half_set {b : List (BitVec 8)} {n j : Nat} (h : j < n) : { Dk.half b n j with ls := (Dk.half b n j).ls.set j (Dk.chunk b j) } = Dk.half b n (j + 1) := by
  unfold Dk.half
  simp only [Dk.mk.injEq, and_true]
  rw [List.set_append_right _ _ (by simp), List.range_succ, List.map_append, List.append_assoc]
  congr 1
  rw [show n - j = (n - (j + 1)) + 1 by omega, List.replicate_succ]
  simp
theorem flat_chunks (b : List (BitVec 8)) (n : Nat) (h : b.length = n * 512) : ((List.range n).map (Dk.chunk b)).flatten = b := by
  have key : ∀ k, k ≤ n → ((List.range k).map (Dk.chunk b)).flatten = b.take (k * 512) := by
    intro k
    induction k with
    | zero => intro _; simp
    | succ k ih =>
      intro hk
      rw [List.range_succ, List.map_append, List.flatten_append, ih (by omega)]
      simp only [List.map_cons, List.map_nil, List.flatten_cons, List.flatten_nil, List.append_nil, Dk.chunk]
      rw [show (k + 1) * 512 = k * 512 + 512 by omega, List.take_add]
  rw [key n (Nat.le_refl _), List.take_of_length_le (by omega)]
def ImgR (w : World) (b : List (BitVec 8)) (n : Nat) (e : Ending) (W' : World) : Prop := ∃ p L, e = .returned (.tuple #[.pointer (some ⟨p, 0, none⟩), .int .i64 0]) ∧ Bag w W' [It.disk p L (Dk.image b n)]
set_option maxHeartbeats 400000 in
theorem dkImageNo (ao : Option Addr) (s cap : Nat) (w : World) (hs : s ≤ 281474976710656) (h : ¬ (s % 512 = 0 ∧ 32 ≤ s / 512 ∧ s / 512 ≤ 8192)) : Calls Try.prog 33 #[.slice ao s cap] w fun e w' => e = .returned (.tuple #[.pointer none, .int .i64 100]) ∧ Below w.heap.size w w' := by
  obtain ⟨n, hn⟩ : ∃ n, s / 512 = n := ⟨_, rfl⟩
  have hdiv : (s : Int) / 512 = (n : Int) := by omega
  by_cases hr : 32 ≤ n ∧ n ≤ 8192
  · obtain ⟨h0, h1⟩ := hr
    have hm : ((s : Int) % 512 != 0) = true := by rw [bne_iff_ne]; omega
    have HD := Lib.hid hdiv
    clear h hn hdiv
    go_enter Try.func33, Try.ntmps33
    go_wp2_with fail
    rw [HD.out]
    refine (dkNew n w h0 h1).mono ?_
    rintro e w1 ⟨p, L, rfl, hB⟩
    have HB := Lib.hid hB.below
    clear hB
    go_wp2_with fail
    go_ret2
    exact ⟨rfl, HB.out⟩
  · have HD := Lib.hid hdiv
    have hr' : (n : Int) < 32 ∨ 8192 < (n : Int) := by omega
    have HR := Lib.hid hr'
    clear h hn hdiv hr hr'
    go_enter Try.func33, Try.ntmps33
    go_wp2_with fail
    rw [HD.out]
    refine (dkNewNo n w HR.out).mono ?_
    rintro e w1 ⟨rfl, rfl⟩
    go_wp2_with fail
    go_ret2
    exact ⟨rfl, Below.refl _ _⟩
open Go.RowKit
theorem cutRow (bb bo s cap j : Nat) (h : (j + 1) * 512 ≤ cap) (u : World) :
    (Instr.slice 37 (.slice (some ⟨bb, bo, none⟩) s cap) (some (.int .i64 ((j : Int) * 512))) (some (.int .i64 (((j : Int) + 1) * 512))) none).run Try.prog u = .ok (.slice (some ⟨bb, bo + j * 512, none⟩) 512 (cap - j * 512)) u := by
  have h1 := cutRun (some ⟨bb, bo, none⟩) s cap (j * 512) 512 (by omega) u
  rw [show ((j * 512 : Nat) : Int) = (j : Int) * 512 by omega, show (j : Int) * 512 + ((512 : Nat) : Int) = ((j : Int) + 1) * 512 by omega] at h1
  rw [h1]
  unfold cutAt
  rw [if_neg (by omega)]
  simp [Addr.add_lit]
set_option maxRecDepth 100000 in
set_option maxHeartbeats 2000000 in
theorem dkImage (ao : Option Addr) (b : List (BitVec 8)) (s cap n : Nat) (w : World) (hbs : b.length = s) (hs : s = n * 512) (hsc : s ≤ cap) (h0 : 32 ≤ n) (h1 : n ≤ 8192) (hr : Rd w ao b) :
   Calls Try.prog 33 #[.slice ao s cap] w (ImgR w b n) := by
  obtain ⟨i0, hi, hz0, hz1, hz2⟩ := info_parts info_u8
  have hdiv : (s : Int) / 512 = (n : Int) := by omega
  have hmod : ((s : Int) % 512 != 0) = false := by rw [bne_eq_false_iff_eq]; omega
  have HD := Lib.hid hdiv
  have HM := Lib.hid hmod
  have HBS := Lib.hid hbs
  have HS := Lib.hid hs
  have hs1 : s ≤ 4194304 := by omega
  obtain ⟨bb, bo, rfl, _⟩ := hr.at (by omega)
  have HR := Lib.hid hr
  clear hdiv hmod hbs hs hr
  go_enter Try.func33, Try.ntmps33
  go_wp2_with fail
  rw [HD.out]
  refine (dkNew n w h0 h1).mono ?_
  rintro e w1 ⟨p, L, rfl, hB⟩
  rw [disk_iff, ← half_zero b n] at hB
  have HB := Lib.hid hB
  have hmod := HM.out
  clear hB
  go_wp2_with fail
  clear hmod
  go_loopw [21] (fun t wr => ∃ j : Nat, j ≤ n ∧ t = .int .i64 j ∧ Bag w wr (dkl p L (Dk.half b n j) [])) (fun t _ => n - (intOf t).toNat)
  case atStart => exact ⟨0, Nat.zero_le _, rfl, HB.out⟩
  case round =>
    obtain ⟨j, hj, rfl, hB⟩ := hrel
    clear HB
    have HB := Lib.hid hB
    clear hB
    by_cases hlt : j < n
    · obtain ⟨q0, _, _, _, _, _, qf⟩ := dkCells HB.out
      obtain ⟨g, cl, hlv, hcl, hbl, hbs⟩ := dkLv HB.out (by rw [half_len hj]; omega)
      rw [half_len hj] at hlv hcl hbl
      rw [hlv] at q0
      obtain ⟨bk, hbk⟩ : ∃ bk, L.bs[j]? = some bk := ⟨L.bs[j]'(by rw [hbl]; exact hlt), List.getElem?_eq_getElem _⟩
      have c := hbs j bk hbk
      unfold slv at c
      have HBK := Lib.hid hbk
      have HL := Lib.hid (Dk.chunk_len (b := b) (n := n) (by rw [HBS.out]; exact HS.out) hlt)
      have HRd := Lib.hid (show Rd wr.drew (some ⟨bb, bo + j * 512, none⟩) (Dk.chunk b j) from ((HR.out.on HB.out.drew.below).drop (j * 512)).take 512)
      have hO := HB.out.drew.rowsOwn 2 rfl j hbk (half_at hlt)
      have HO := Lib.hid hO
      have hjs : (j + 1) * 512 ≤ s := by rw [HS.out]; omega
      have hz1' : IntKind.i64.wrap ((j : Int) * 512) = (j : Int) * 512 := wrapI64 _ (by omega) (by omega)
      have hz2' : IntKind.i64.wrap ((j : Int) + 1) = (j : Int) + 1 := wrapI64 _ (by omega) (by omega)
      have hz3' : IntKind.i64.wrap (((j : Int) + 1) * 512) = ((j : Int) + 1) * 512 := wrapI64 _ (by omega) (by omega)
      have hcut := cutRow bb bo s cap j (by omega)
      clear hlv hcl hbl hbs hbk hO
      go_wp2_with fail
      go_still_tail 14, (by kernel_rfl)
      clear q0 qf c hcut hz1' hz2' hz3'
      refine (wpList_copy_bytes rfl (.tmp 30) (.tmp 37) 37 37 rfl 5 i0 Try.underlying37 hi hz1 bk 512 512 (some ⟨bb, bo + j * 512, none⟩) 512 (cap - j * 512) rfl rfl 512 5 Dk.zs (Dk.chunk b j) HO.out ?hL HRd.out ?hl ?hmn ?_)
      case hL => exact Dk.zs_len
      case hl => exact HL.out
      case hmn => omega
      intro w3 hO3 _ hB3
      have h2 := dkRow HB.out.drew HBK.out hB3 (own_cut hO3 Dk.zs_len)
      rw [half_set hlt] at h2
      have HB2 := Lib.hid h2
      clear h2 hO3 hB3 HB HO HRd
      go_wp2_with fail
      go_roundw
      case rel => exact ⟨j + 1, by omega, by go_num, HB2.out⟩
      case measure => simp [intOf]; omega
    · obtain rfl : j = n := by omega
      go_wp2_with fail
      go_ret2
      refine ⟨p, L, rfl, ?_⟩
      rw [disk_iff, ← half_all]
      exact HB.out
end Go.Proofs.Ytkndlpihhfjcpaa
