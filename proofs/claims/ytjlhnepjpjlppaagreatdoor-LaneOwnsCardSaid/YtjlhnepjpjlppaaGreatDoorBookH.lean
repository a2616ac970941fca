/- The Book's lists of bytes are looked at: marks; as they were. -/
import Derived.Test.YtjlhnepjpjlppaaGreatDoorBookW
namespace Go.Proofs.YtjlhnepjpjlppaaGreatDoor
open Go.RowKit
/-- Every list, and what it was grown to, shows its marks. -/
def Shows (pass id : Int) (es : List Ent) : Prop := ∀ (k : Nat) (E : Ent), es[k]? = some E → E.l = marks pass (id + k + 1) E.l.length ∧ E.m = marks pass (id + k + 1) E.m.length ∧ E.l.length ≤ 1000000000 ∧ E.m.length ≤ 1000000000
theorem bag_ent {w W : World} {l1 l2 : List It} {e : TypeId} {es : List Ent} {k : Nat} {E : Ent} (h : Bag w W (l1 ++ (es.map (It.ent e) ++ l2))) (hE : es[k]? = some E) : (It.ent e E).holds W := by
  refine h.holds (l1.length + k) _ ?_
  rw [List.getElem?_append_right (by omega), Nat.add_sub_cancel_left, List.getElem?_append_left (by rw [List.length_map]; exact (List.getElem?_eq_some_iff.1 hE).1), List.getElem?_map, hE]
  rfl
-- PRINTED
set_option maxRecDepth 100000 in
set_option maxHeartbeats 2000000 in
theorem bytesHoldE (w W : World) (p : Nat) (base pass id : Int) (vB vW : Value) (es : List Ent) (rest : List It) (hs : Shows pass id es) (hn : es.length ≤ 1000000) (hid : 0 ≤ id ∧ id ≤ 1000000)
   (hB : Bag w W (.bk p base pass vB vW (.slice none 0 0) :: .ls 22 vB (es.map Ent.v) :: (es.map (It.ent 5) ++ rest))) :
   Calls Tryz.prog 60 #[.pointer (some ⟨p, 0, none⟩), .int .i64 id] W fun e W' => e = .returned (.tuple #[.int .i64 (id + es.length), .bool true]) ∧ W' = W := by
  obtain ⟨aB, cB, rfl, hcB⟩ := lsForm hB 1 rfl
  have hls : (es.map Ent.v).length = es.length := List.length_map ..
  rw [hls] at hcB
  obtain ⟨b2, f2⟩ := bkCell hB 2 (.slice aB es.length cB) (by rw [← hls]; rfl)
  obtain ⟨b1, f1⟩ := bkCell hB 1 (.int .i64 pass) rfl
  obtain ⟨b4, f4⟩ := bkCell hB 4 (.slice none 0 0) rfl
  have HB := Lib.hid hB
  have HS := Lib.hid hs
  have HLs := Lib.hid hls
  clear hB hs hls f1 f2 f4
  go_enter Tryz.func60, Tryz.ntmps60
  go_wp2
  go_loop [1, 6, 7, 8, 9] (fun a t i _ _ => ∃ k : Nat, k ≤ es.length ∧ a = .int .i64 (id + k) ∧ t = .bool true ∧ i = .int .i64 k) (fun _ _ i _ _ => es.length - (intOf i).toNat)
  case atStart => exact ⟨0, Nat.zero_le _, by simp, rfl, rfl⟩
  case round =>
    obtain ⟨k, hk, rfl, rfl, rfl⟩ := hrel
    by_cases hlt : k < es.length
    · obtain ⟨E, hE⟩ : ∃ E, es[k]? = some E := ⟨es[k], List.getElem?_eq_getElem hlt⟩
      obtain ⟨s1, s2, s3, s4⟩ := HS.out k E hE
      obtain ⟨e1, e2, e3⟩ := bag_ent (l1 := [_, _]) HB.out hE
      have r1 := e1.rd
      rw [s1] at r1
      obtain ⟨gB, cB', hv, hel, hfz⟩ := lsElem HB.out 1 rfl k (by rw [HLs.out]; exact hlt)
      simp only [HLs.out, Value.slice.injEq, true_and] at hv
      obtain ⟨hv1, hv2⟩ := hv
      subst hv1
      rw [List.getElem?_map, hE] at hel
      have hel' : W.cell? ⟨gB, k, none⟩ = some (.slice E.ao E.l.length E.cap) := hel
      have R1 := Lib.hid r1
      have hq0 : (0 : Int) ≤ id + k := by omega
      have hq1 : id + (k : Int) ≤ 2000000 := by omega
      have hw1 := wrapI64 (id + (k : Int) + 1) (by omega) (by omega)
      have HE := Lib.hid s1
      clear hel hfz hv2 s1 s2 hE HS e1 e2 e3 r1
      go_wp2_with fail
      refine (bytesShow p pass (id + k + 1) E.ao E.l.length E.cap W b1 (by omega) R1.out).mono ?_
      rintro e w' ⟨rfl, hw⟩
      obtain rfl := hw
      go_wp2_with fail
      go_round
      case rel => exact ⟨k + 1, by omega, by rw [show ((k + 1 : Nat) : Int) = (k : Int) + 1 by omega, Int.add_assoc], rfl, by go_num⟩
      case measure => simp [intOf]; omega
    · have hk2 : k = es.length := by omega
      clear HS HB
      go_wp2
      go_ret2
      exact ⟨rfl, rfl⟩
set_option maxRecDepth 100000 in
set_option maxHeartbeats 2000000 in
theorem bytesHoldF (w W : World) (p : Nat) (base pass id : Int) (vB vW vG : Value) (es : List Ent) (rest : List It) (hs : Shows pass id es) (hn : es.length ≤ 1000000) (hid : 0 ≤ id ∧ id ≤ 1000000)
   (hB : Bag w W (.bk p base pass vB vW vG :: .ls 22 vB (es.map Ent.v) :: .ls 22 vG (es.map Ent.g) :: (es.map (It.ent 5) ++ rest))) :
   Calls Tryz.prog 60 #[.pointer (some ⟨p, 0, none⟩), .int .i64 id] W fun e W' => e = .returned (.tuple #[.int .i64 (id + es.length), .bool true]) ∧ W' = W := by
  obtain ⟨aB, cB, rfl, hcB⟩ := lsForm hB 1 rfl
  have hls : (es.map Ent.v).length = es.length := List.length_map ..
  have hlg : (es.map Ent.g).length = es.length := List.length_map ..
  obtain ⟨aG, cG, rfl, hcG⟩ := lsForm hB 2 rfl
  rw [hlg] at hcG
  rw [hls] at hcB
  obtain ⟨b2, f2⟩ := bkCell hB 2 (.slice aB es.length cB) (by rw [← hls]; rfl)
  obtain ⟨b1, f1⟩ := bkCell hB 1 (.int .i64 pass) rfl
  obtain ⟨b4, f4⟩ := bkCell hB 4 (.slice aG es.length cG) (by rw [← hlg]; rfl)
  have HB := Lib.hid hB
  have HS := Lib.hid hs
  have HLs := Lib.hid hls
  have HLg := Lib.hid hlg
  clear hB hs hls f1 f2 f4 hlg
  go_enter Tryz.func60, Tryz.ntmps60
  go_wp2
  go_loop [1, 6, 7, 8, 9] (fun a t i _ _ => ∃ k : Nat, k ≤ es.length ∧ a = .int .i64 (id + k) ∧ t = .bool true ∧ i = .int .i64 k) (fun _ _ i _ _ => es.length - (intOf i).toNat)
  case atStart => exact ⟨0, Nat.zero_le _, by simp, rfl, rfl⟩
  case round =>
    obtain ⟨k, hk, rfl, rfl, rfl⟩ := hrel
    by_cases hlt : k < es.length
    · obtain ⟨E, hE⟩ : ∃ E, es[k]? = some E := ⟨es[k], List.getElem?_eq_getElem hlt⟩
      obtain ⟨s1, s2, s3, s4⟩ := HS.out k E hE
      obtain ⟨e1, e2, e3⟩ := bag_ent (l1 := [_, _, _]) HB.out hE
      have r1 := e1.rd
      rw [s1] at r1
      obtain ⟨gB, cB', hv, hel, hfz⟩ := lsElem HB.out 1 rfl k (by rw [HLs.out]; exact hlt)
      simp only [HLs.out, Value.slice.injEq, true_and] at hv
      obtain ⟨hv1, hv2⟩ := hv
      subst hv1
      rw [List.getElem?_map, hE] at hel
      have hel' : W.cell? ⟨gB, k, none⟩ = some (.slice E.ao E.l.length E.cap) := hel
      have r2 := e2.rd
      rw [s2] at r2
      obtain ⟨gG, cG', hv', helg, hfz'⟩ := lsElem HB.out 2 rfl k (by rw [HLg.out]; exact hlt)
      simp only [HLg.out, Value.slice.injEq, true_and] at hv'
      obtain ⟨hv1', hv2'⟩ := hv'
      subst hv1'
      rw [List.getElem?_map, hE] at helg
      have helg' : W.cell? ⟨gG, k, none⟩ = some (.slice E.go E.m.length E.gc) := helg
      have R2 := Lib.hid r2
      clear helg hfz' hv2' r2
      have R1 := Lib.hid r1
      have hq0 : (0 : Int) ≤ id + k := by omega
      have hq1 : id + (k : Int) ≤ 2000000 := by omega
      have hw1 := wrapI64 (id + (k : Int) + 1) (by omega) (by omega)
      have HE := Lib.hid s1
      clear hel hfz hv2 s1 s2 hE HS e1 e2 e3 r1
      go_wp2_with fail
      refine (bytesShow p pass (id + k + 1) E.ao E.l.length E.cap W b1 (by omega) R1.out).mono ?_
      rintro e w' ⟨rfl, hw⟩
      obtain rfl := hw
      go_wp2_with fail
      refine (bytesShow p pass (id + k + 1) E.go E.m.length E.gc _ b1 (by omega) R2.out).mono ?_
      rintro e w' ⟨rfl, hw⟩
      obtain rfl := hw
      go_wp2_with fail
      go_round
      case rel => exact ⟨k + 1, by omega, by rw [show ((k + 1 : Nat) : Int) = (k : Int) + 1 by omega, Int.add_assoc], rfl, by go_num⟩
      case measure => simp [intOf]; omega
    · have hk2 : k = es.length := by omega
      clear HS HB
      go_wp2
      go_ret2
      exact ⟨rfl, rfl⟩
/-- The copies that were made. -/
structure Cop where
  ao : Option Addr
  cap : Nat
  l : List (BitVec 8)
def Cop.v (C : Cop) : Value := .slice C.ao C.l.length C.cap
def It.cop (e : TypeId) (C : Cop) : It := .mine e C.ao C.cap C.l
set_option maxRecDepth 100000 in
set_option maxHeartbeats 4000000 in
theorem bookWas (w W : World) (p : Nat) (base pass : Int) (vB vW vG : Value) (es : List Ent) (cs : List Cop) (rest : List It) (hs : es.map Ent.l = cs.map Cop.l) (hlen : ∀ E ∈ es, E.l.length ≤ 1000000000) (hn : es.length ≤ 1000000)
   (hB : Bag w W (.bk p base pass vB vW vG :: .ls 22 vB (es.map Ent.v) :: .ls 22 vW (cs.map Cop.v) :: (es.map (It.ent 5) ++ (cs.map (It.cop 5) ++ rest)))) :
   Calls Tryz.prog 40 #[.pointer (some ⟨p, 0, none⟩)] W fun e W' => e = .returned (.bool true) ∧ Still W W' := by
  have hls : (es.map Ent.v).length = es.length := List.length_map ..
  have hlc0 : cs.length = es.length := by have := congrArg List.length hs; simpa using this.symm
  have hlc : (cs.map Cop.v).length = es.length := by rw [List.length_map, hlc0]
  obtain ⟨aB, cB, rfl, hcB⟩ := lsForm hB 1 rfl
  obtain ⟨aW, cW, rfl, hcW⟩ := lsForm hB 2 rfl
  rw [hls] at hcB
  rw [hlc] at hcW
  have HB := Lib.hid hB
  have HS := Lib.hid hs
  have HLs := Lib.hid hls
  have HLc := Lib.hid hlc
  have HL0 := Lib.hid hlc0
  have HLen := Lib.hid hlen
  clear hB hs hls hlc hlc0 hlen
  go_enter Tryz.func40, Tryz.ntmps40
  go_wp2
  go_loopw [3] (fun i wr => ∃ k : Nat, k ≤ es.length ∧ i = .int .i64 k ∧ Still W wr) (fun i _ => es.length - (intOf i).toNat)
  case atStart => exact ⟨0, Nat.zero_le _, rfl, Still.refl _⟩
  case round =>
    obtain ⟨k, hk, rfl, hst⟩ := hrel
    have HBw := Lib.hid (HB.out.still hst)
    clear HB
    have HB := Lib.hid HBw.out
    obtain ⟨b2, f2⟩ := bkCell HBw.out 2 (.slice aB es.length cB) (by rw [← HLs.out]; rfl)
    obtain ⟨b3, f3⟩ := bkCell HBw.out 3 (.slice aW es.length cW) (by rw [← HLc.out]; rfl)
    obtain ⟨b5, f5⟩ := bkCell HBw.out 5 (.slice none 0 0) rfl
    obtain ⟨b8, f8⟩ := bkCell HBw.out 8 (.slice none 0 0) rfl
    obtain ⟨b11, f11⟩ := bkCell HBw.out 11 (.slice none 0 0) rfl
    obtain ⟨b14, f14⟩ := bkCell HBw.out 14 (.slice none 0 0) rfl
    obtain ⟨b20, f20⟩ := bkCell HBw.out 20 (.slice none 0 0) rfl
    have HST := Lib.hid hst
    clear HBw f2 f3 f5 f8 f11 f14 f20 hst
    by_cases hlt : k < es.length
    · obtain ⟨E, hE⟩ : ∃ E, es[k]? = some E := ⟨es[k], List.getElem?_eq_getElem hlt⟩
      obtain ⟨C, hC⟩ : ∃ C, cs[k]? = some C := ⟨cs[k]'(by rw [HL0.out]; exact hlt), List.getElem?_eq_getElem _⟩
      have hEC : E.l = C.l := by
        have h0 := congrArg (fun l => l[k]?) HS.out
        simp only [List.getElem?_map, hE, hC, Option.map_some, Option.some.injEq] at h0
        exact h0
      obtain ⟨e1, e2, e3⟩ := bag_ent (l1 := [_, _, _]) HB.out hE
      have hcm : (It.cop 5 C).holds wr := by
        refine HB.out.holds (3 + es.length + k) _ ?_
        rw [show 3 + es.length + k = (es.length + k) + 1 + 1 + 1 by omega]
        simp only [List.getElem?_cons_succ]
        rw [List.getElem?_append_right (by rw [List.length_map]; omega), List.length_map, Nat.add_sub_cancel_left, List.getElem?_append_left (by rw [List.length_map, HL0.out]; exact hlt), List.getElem?_map, hC]
        rfl
      have r1 : Rd wr E.ao E.l := e1.rd
      have r2 : Rd wr C.ao C.l := Mine.rd hcm
      rw [← hEC] at r2
      obtain ⟨gB, cB', hv, hel, hfz⟩ := lsElem HB.out 1 rfl k (by rw [HLs.out]; exact hlt)
      simp only [HLs.out, Value.slice.injEq, true_and] at hv
      obtain ⟨hv1, hv2⟩ := hv
      subst hv1
      rw [List.getElem?_map, hE] at hel
      have hel' : wr.cell? ⟨gB, k, none⟩ = some (.slice E.ao E.l.length E.cap) := hel
      obtain ⟨gW, cW', hv', helw, hfz'⟩ := lsElem HB.out 2 rfl k (by rw [HLc.out]; exact hlt)
      simp only [HLc.out, Value.slice.injEq, true_and] at hv'
      obtain ⟨hv1', hv2'⟩ := hv'
      subst hv1'
      rw [List.getElem?_map, hC] at helw
      have helw' : wr.cell? ⟨gW, k, none⟩ = some (.slice C.ao E.l.length C.cap) := by rw [hEC]; exact helw
      have hlE := HLen.out E (List.mem_of_getElem? hE)
      have R1 := Lib.hid r1
      have R2 := Lib.hid r2
      clear hel helw hfz hfz' hv2 hv2' hE hC hEC e1 e2 e3 hcm r1 r2 HS HLen
      go_wp2_with fail
      go_quiet ((go_at_call 38; exact Calls.quiet_of (sameTrue E.ao C.ao E.l E.l.length E.l.length E.cap C.cap _ rfl rfl (by omega) (R1.out.on (below_drewN (Below.refl _ _) _)) (R2.out.on (below_drewN (Below.refl _ _) _)))))
      go_wp2_with fail
      go_roundw
      case rel => exact ⟨k + 1, by omega, by go_num, HST.out.drewN _⟩
      case measure => simp [intOf]; omega
    · clear HS HB HLen
      go_wp2
      go_loop [4] (fun i => i = .int .i64 0) (fun _ => 0)
      case atStart => exact rfl
      case round =>
        obtain rfl := hrel
        go_wp2
        go_loop [5] (fun i => i = .int .i64 0) (fun _ => 0)
        case atStart => exact rfl
        case round =>
          obtain rfl := hrel
          go_wp2
          go_loop [6, 7] (fun i _ => i = .int .i64 0) (fun _ _ => 0)
          case atStart => exact rfl
          case round =>
            obtain rfl := hrel
            go_wp2
            go_loop [8, 9] (fun i _ => i = .int .i64 0) (fun _ _ => 0)
            case atStart => exact rfl
            case round =>
              obtain rfl := hrel
              go_wp2
              go_loop [10, 11] (fun i _ => i = .int .i64 0) (fun _ _ => 0)
              case atStart => exact rfl
              case round =>
                obtain rfl := hrel
                go_wp2
                go_ret
                exact ⟨rfl, HST.out⟩
end Go.Proofs.YtjlhnepjpjlppaaGreatDoor
