/- The Book's lists of bytes are grown for the first time. -/
import Derived.Test.YtjlhnepjpjlppaaGreatDoorBookG
namespace Go.Proofs.YtjlhnepjpjlppaaGreatDoor
open Go.RowKit
set_option maxRecDepth 100000 in
set_option maxHeartbeats 4000000 in
theorem bytesGrowF (w W : World) (p : Nat) (base pass id : Int) (vB vW : Value) (es : List Ent) (rest : List It)  (hn : es.length ≤ 1000000) (hid : 0 ≤ id ∧ id ≤ 1000000) (hlen : ∀ E ∈ es, E.l.length ≤ 1000000000 ∧ E.m.length ≤ 1000000000)
   (hB : Bag w W (.bk p base pass vB vW (.slice none 0 0) :: .ls 22 vB (es.map Ent.v) :: .ls 22 (.slice none 0 0) [] :: (es.map (It.ent 5) ++ rest))) :
   Calls Tryz.prog 77 #[.pointer (some ⟨p, 0, none⟩), .int .i64 id, .int .i64 0] W fun e W' => e = .returned (.int .i64 (id + es.length)) ∧ ∃ es' vG', es'.length = es.length ∧ Grew true pass id es es' ∧ Bag w W' (.bk p base pass vB vW vG' :: .ls 22 vB (es'.map Ent.v) :: .ls 22 vG' (es'.map Ent.g) :: (es'.map (It.ent 5) ++ rest)) := by
  obtain ⟨i0, hi, hz0, hz1, hz2⟩ := info_parts info_u8
  obtain ⟨is, his, hsz0, hsz1, hsz2⟩ := info_sl_parts
  obtain ⟨aB, cB, rfl, hcB⟩ := lsForm hB 1 rfl
  rw [List.length_map] at hcB
  have hls : (es.map Ent.v).length = es.length := List.length_map ..
  rw [hls] at hB
  have HB := Lib.hid hB
  have HLs := Lib.hid hls
  have HLen := Lib.hid hlen
  clear hB hls hlen
  go_enter Tryz.func77, Tryz.ntmps77
  go_wp2
  go_loopw [1, 7, 8] (fun a i _ wr => ∃ (k : Nat) (dn : List Ent) (vG : Value), k ≤ es.length ∧ a = .int .i64 (id + k) ∧ i = .int .i64 k ∧ dn.length = k ∧ Grew true pass id es dn ∧ Bag w wr (.bk p base pass (.slice aB es.length cB) vW vG :: .ls 22 (.slice aB es.length cB) (es.map Ent.v) :: .ls 22 vG (dn.map Ent.g) :: (dn.map (It.ent 5) ++ ((es.drop k).map (It.ent 5) ++ rest)))) (fun _ i _ _ => es.length - (intOf i).toNat)
  case atStart => exact ⟨0, [], .slice none 0 0, Nat.zero_le _, by simp, rfl, rfl, fun _ _ _ _ h => by simp at h, by simpa using HB.out⟩
  case round =>
    obtain ⟨k, dn, vG, hk, rfl, rfl, hdk, hgr, hB⟩ := hrel
    clear HB
    have HB := Lib.hid hB
    have HGr := Lib.hid hgr
    have HDk := Lib.hid hdk
    clear hgr
    by_cases hlt : k < es.length
    · obtain ⟨E, hE⟩ : ∃ E, es[k]? = some E := ⟨es[k], List.getElem?_eq_getElem hlt⟩
      have hEg : es[k] = E := by rw [List.getElem?_eq_getElem hlt] at hE; exact Option.some.inj hE
      have hd : es.drop k = E :: es.drop (k + 1) := by rw [List.drop_eq_getElem_cons hlt, hEg]
      obtain ⟨hl1, hl2⟩ := HLen.out E (List.mem_of_getElem? hE)
      have HE := Lib.hid hE
      have hk1 : k + 1 ≤ es.length := by omega
      have HI1 := Lib.hid (show Value.int .i64 (id + (k : Int) + 1) = .int .i64 (id + ((k + 1 : Nat) : Int)) by rw [show ((k + 1 : Nat) : Int) = (k : Int) + 1 by omega, Int.add_assoc])
      have HI2 := Lib.hid (show Value.int .i64 ((k : Int) + 1) = .int .i64 ((k + 1 : Nat) : Int) from rfl)
      have hq1 : (0 : Int) ≤ id + k := by omega
      have hq2 : id + (k : Int) ≤ 2000000 := by omega
      have hw1 := wrapI64 (id + (k : Int) + 1) (by omega) (by omega)
      rw [hd] at hB
      obtain ⟨b1, f1⟩ := bkCell hB 1 (.int .i64 pass) rfl
      obtain ⟨b2, f2⟩ := bkCell hB 2 (.slice aB es.length cB) rfl
      obtain ⟨b4, f4⟩ := bkCell hB 4 vG rfl
      obtain ⟨gB, cB', hv, hel, hfz⟩ := lsElem hB 1 rfl k (by rw [HLs.out]; exact hlt)
      simp only [HLs.out, Value.slice.injEq, true_and] at hv
      obtain ⟨hv1, hv2⟩ := hv
      subst hv1
      rw [List.getElem?_map, hE] at hel
      have hel' : wr.cell? ⟨gB, k, none⟩ = some (.slice E.ao E.l.length E.cap) := hel
      clear hel hfz hv2 hE hEg
      have hgl : (dn.map Ent.g).length = k := by simpa using hdk
      obtain ⟨aG, cG, hv', hcG⟩ := lsForm hB 2 rfl
      rw [hgl] at hv'
      subst hv'
      have h0 : Bag w wr ((.bk p base pass (.slice (some ⟨gB, 0, none⟩) es.length cB) vW (.slice aG k cG) :: .ls 22 (.slice (some ⟨gB, 0, none⟩) es.length cB) (es.map Ent.v) :: .ls 22 (.slice aG k cG) (dn.map Ent.g) :: dn.map (It.ent 5)) ++ It.ent 5 E :: ((es.drop (k + 1)).map (It.ent 5) ++ rest)) := by simpa using hB
      clear HB hB
      have HB := Lib.hid h0
      have HD := Lib.hid hd
      have HGn := Lib.hid hgl
      clear h0 hd hgl
      go_upto_if 21 with fail
      go_cut [] from 22 to 37 (fun wx => ∃ gG cG, Bag w wx ((.bk p base pass (.slice (some ⟨gB, 0, none⟩) es.length cB) vW (.slice (some ⟨gG, 0, none⟩) (k + 1) cG) :: .ls 22 (.slice (some ⟨gB, 0, none⟩) es.length cB) (es.map Ent.v) :: .ls 22 (.slice (some ⟨gG, 0, none⟩) (k + 1) cG) ((dn ++ { E with go := E.ao, gc := E.cap, m := E.l } :: []).map Ent.g) :: dn.map (It.ent 5)) ++ It.ent 5 { E with go := E.ao, gc := E.cap, m := E.l } :: ((es.drop (k + 1)).map (It.ent 5) ++ rest)))
      case first =>
        go_wp2_with fail
        have H1 := Lib.hid (HB.out.drew.call ((Below.refl _ wr.drew).alloc (Nat.le_refl _) (.cells #[.slice E.ao E.l.length E.cap] 22)))
        have HC := Lib.hid (cell_new1 wr.drew (.slice E.ao E.l.length E.cap) 22 (0, 0))
        have hpl : p < wr.heap.size := World.block_lt_of_cell? wr _ b4
        have hgl3 : gB < wr.heap.size := World.block_lt_of_cell? wr _ hel'
        go_region_law ((refine Bag.appendStep rfl _ _ 32 rfl 22 is _ 24 Tryz.underlying32 his hsz0 hsz1 hsz2 rfl 2 _ _ H1.out rfl rfl ⟨wr.heap.size, 0, none⟩ rfl _ HC.out rfl (by rw [HGn.out]; simp only [maxLen]; omega) (by rw [HGn.out]; omega) ?_; intro gG cG' W2 hB2 hsz; simp only [List.cons_append, List.set_cons_succ, List.set_cons_zero] at hB2; rw [HGn.out] at hB2; rw [HGn.out]; obtain ⟨z4, zf⟩ := bkCell hB2 4 _ rfl))
        all_goals
          have HB1 := Lib.hid (firstEnd (gG := gG) (E := E) hB2)
          clear hB2 z4 zf H1 HC HB
          go_wp2_with fail
          go_meet
          case rel => exact ⟨gG, cG', HB1.out⟩
      case rest =>
      obtain ⟨gG, cG, hB⟩ := hcut
      obtain ⟨A, hA⟩ : ∃ A : Ent, A = { E with go := E.ao, gc := E.cap, m := E.l } := ⟨_, rfl⟩
      rw [← hA] at hB
      have hl3 : A.m.length ≤ 1000000000 := by rw [hA]; exact hl1
      have HA := Lib.hid hA
      clear hA HB b1 b2 b4 f1 f2 f4 hel'
      obtain ⟨b1, f1⟩ := bkCell hB 1 (.int .i64 pass) rfl
      obtain ⟨b4, f4⟩ := bkCell hB 4 (.slice (some ⟨gG, 0, none⟩) (k + 1) cG) rfl
      have hgl : ((dn ++ A :: []).map Ent.g).length = k + 1 := by simp; omega
      have hlt2 : k < k + 1 := by omega
      have hlt3 : (k : Int) < (k : Int) + 1 := by omega
      obtain ⟨helg, hfg⟩ := lsCell hB 2 rfl hgl k hlt2
      rw [mid_get Ent.g dn [] A k hdk] at helg
      have helg' : wc.cell? ⟨gG, k, none⟩ = some (.slice A.go A.m.length A.gc) := helg
      have HGl := Lib.hid hgl
      clear helg hgl
      have HB := Lib.hid hB
      clear hB
      go_wp2_with fail
      refine (byteMark p pass (id + k + 1) A.m.length _ b1).mono ?_
      rintro e w' ⟨rfl, hw⟩
      obtain rfl := hw
      obtain ⟨x, hx⟩ : ∃ x, bm pass (id + k + 1) A.m.length = x := ⟨_, rfl⟩
      rw [hx]
      have HX := Lib.hid hx
      clear hx
      go_wp2_with fail
      have H1 := Lib.hid (HB.out.drew.call ((Below.refl _ w'.drew).alloc (Nat.le_refl _) (.cells #[.int .u8 (n8 x)] 5)))
      have HC := Lib.hid (cell_new1 w'.drew (.int .u8 (n8 x)) 5 (0, 0))
      have hpl : p < w'.heap.size := World.block_lt_of_cell? w' _ b4
      have hgl3 : gG < w'.heap.size := World.block_lt_of_cell? w' _ helg'
      go_region_law ((refine entStep rfl _ _ 22 rfl 5 i0 Tryz.underlying22 hi hz0 hz1 hz2 A H1.out rfl ⟨w'.heap.size, 0, none⟩ rfl x HC.out (by omega) ?_; intro go gc W2 hB2; have z4 := (bkCell hB2 4 (.slice (some ⟨gG, 0, none⟩) (k + 1) cG) rfl).1; have zk : W2.cell? ⟨gG, k, none⟩ = some (.slice A.go A.m.length A.gc) := (lsCell hB2 2 rfl HGl.out k hlt2).1.trans (mid_get Ent.g dn _ A k HDk.out); have zf : W2.frozen? ⟨gG, k, none⟩ = false := (lsCell hB2 2 rfl HGl.out k hlt2).2))
      all_goals
        have HB3 := Lib.hid (growEnd (w := w) (W := W2) (p := p) (gG := gG) (cG := cG) (n := (k + 1)) (k := k) (gc := gc) (base := base) (pass := pass) (vB := .slice (some ⟨gB, 0, none⟩) es.length cB) (vW := vW) (xs := es.map Ent.v) (dn := dn) (td := es.drop (k + 1)) (tg := []) (rest := rest) (E := A) (go := go) (x := x) hB2 HDk.out HGl.out hlt2)
        have HE1 := Lib.hid (show Grew true pass id es (dn ++ [{ A with go := go, gc := gc, m := A.m ++ [x] }]) from grew_snoc HGr.out HDk.out HE.out ⟨by rw [HA.out], by rw [HA.out], by rw [HA.out], by rw [← HX.out, HA.out]; rfl⟩)
        clear hB2 HB z4 zk H1 HC
        go_wp2_with fail
        go_roundw
        case rel => exact ⟨k + 1, dn ++ [{ A with go := go, gc := gc, m := A.m ++ [x] }], .slice (some ⟨gG, 0, none⟩) (k + 1) cG, hk1, HI1.out, HI2.out, by rw [List.length_append, HDk.out]; rfl, HE1.out, by simpa using HB3.out⟩
        case measure => simp [intOf]; omega
    · have hk2 : k = es.length := by omega
      subst hk2
      obtain ⟨b2, f2⟩ := bkCell hB 2 (.slice aB es.length cB) rfl
      clear HLen hB
      go_wp2
      go_ret
      refine ⟨rfl, dn, vG, HDk.out, HGr.out, ?_⟩
      have h0 := HB.out
      have hm := mapv_of HGr.out HDk.out (Nat.le_refl _)
      rw [List.take_length] at hm
      rw [hm, HLs.out]
      simpa using h0
end Go.Proofs.YtjlhnepjpjlppaaGreatDoor
