/- The Book: untouched, written over, looked at, grown: all of it. -/
import Derived.Test.YtjlhnepjpjlppaaGreatDoorBookG0
namespace Go.Proofs.YtjlhnepjpjlppaaGreatDoor
open Go.RowKit
set_option maxHeartbeats 1000000 in
theorem bookWasOf (w W : World) (p : Nat) (base pass : Int) (vB vW vG : Value) (rest : List It) (hB : Bag w W (.bk p base pass vB vW vG :: rest)) :
   Calls Tryz.prog 41 #[.pointer (some ⟨p, 0, none⟩)] W fun e W' => e = .returned (.bool true) ∧ W' = W := by
  obtain ⟨b17, f17⟩ := bkCell hB 17 (.slice none 0 0) rfl
  obtain ⟨b23, f23⟩ := bkCell hB 23 (.slice none 0 0) rfl
  obtain ⟨b26, f26⟩ := bkCell hB 26 (.slice none 0 0) rfl
  obtain ⟨b29, f29⟩ := bkCell hB 29 (.slice none 0 0) rfl
  obtain ⟨b32, f32⟩ := bkCell hB 32 (.slice none 0 0) rfl
  obtain ⟨b38, f38⟩ := bkCell hB 38 (.slice none 0 0) rfl
  clear hB
  go_enter Tryz.func41, Tryz.ntmps41
  go_wp2
  go_loop [3] (fun i => i = .int .i64 0) (fun _ => 0)
  case atStart => exact rfl
  case round =>
    obtain rfl := hrel
    go_wp2
    go_loop [4] (fun i => i = .int .i64 0) (fun _ => 0)
    case atStart => exact rfl
    case round =>
      obtain rfl := hrel
      go_wp2
      go_loop [5] (fun i => i = .int .i64 0) (fun _ => 0)
      case atStart => exact rfl
      case round =>
        obtain rfl := hrel
        go_wp2
        go_loop [6] (fun i => i = .int .i64 0) (fun _ => 0)
        case atStart => exact rfl
        case round =>
          obtain rfl := hrel
          go_wp2
          go_loop [7] (fun i => i = .int .i64 0) (fun _ => 0)
          case atStart => exact rfl
          case round =>
            obtain rfl := hrel
            go_wp2
            go_loop [8] (fun i => i = .int .i64 0) (fun _ => 0)
            case atStart => exact rfl
            case round =>
              obtain rfl := hrel
              go_wp2
              go_ret
              exact ⟨rfl, rfl⟩
set_option maxHeartbeats 1000000 in
theorem bookWasToo (w W : World) (p : Nat) (base pass : Int) (vB vW vG : Value) (rest : List It) (hB : Bag w W (.bk p base pass vB vW vG :: rest)) :
   Calls Tryz.prog 42 #[.pointer (some ⟨p, 0, none⟩)] W fun e W' => e = .returned (.bool true) ∧ W' = W := by
  obtain ⟨b35, f35⟩ := bkCell hB 35 (.slice none 0 0) rfl
  obtain ⟨b41, f41⟩ := bkCell hB 41 (.slice none 0 0) rfl
  obtain ⟨b44, f44⟩ := bkCell hB 44 (.slice none 0 0) rfl
  obtain ⟨b47, f47⟩ := bkCell hB 47 (.slice none 0 0) rfl
  obtain ⟨b50, f50⟩ := bkCell hB 50 (.slice none 0 0) rfl
  clear hB
  go_enter Tryz.func42, Tryz.ntmps42
  go_wp2
  go_loop [3] (fun i => i = .int .i64 0) (fun _ => 0)
  case atStart => exact rfl
  case round =>
    obtain rfl := hrel
    go_wp2
    go_loop [4] (fun i => i = .int .i64 0) (fun _ => 0)
    case atStart => exact rfl
    case round =>
      obtain rfl := hrel
      go_wp2
      go_loop [5] (fun i => i = .int .i64 0) (fun _ => 0)
      case atStart => exact rfl
      case round =>
        obtain rfl := hrel
        go_wp2
        go_loop [6] (fun i => i = .int .i64 0) (fun _ => 0)
        case atStart => exact rfl
        case round =>
          obtain rfl := hrel
          go_wp2
          go_loop [7] (fun i => i = .int .i64 0) (fun _ => 0)
          case atStart => exact rfl
          case round =>
            obtain rfl := hrel
            go_wp2
            go_ret
            exact ⟨rfl, rfl⟩
theorem bookUntouched (w W : World) (p : Nat) (base pass : Int) (vB vW vG : Value) (es : List Ent) (cs : List Cop) (rest : List It) (hs : es.map Ent.l = cs.map Cop.l) (hlen : ∀ E ∈ es, E.l.length ≤ 1000000000) (hn : es.length ≤ 1000000)
   (hB : Bag w W (.bk p base pass vB vW vG :: .ls 22 vB (es.map Ent.v) :: .ls 22 vW (cs.map Cop.v) :: (es.map (It.ent 5) ++ (cs.map (It.cop 5) ++ rest)))) :
   Calls Tryz.prog 34 #[.pointer (some ⟨p, 0, none⟩)] W fun e W' => e = .returned (.bool true) ∧ Still W W' := by
  have HC := Lib.hid (bookWas w W p base pass vB vW vG es cs rest hs hlen hn hB)
  have HB := Lib.hid hB
  clear hB hs hlen
  go_enter Tryz.func34, Tryz.ntmps34
  go_wp2_with fail
  refine HC.out.mono ?_
  rintro e w1 ⟨rfl, hst⟩
  have HB1 := Lib.hid (HB.out.still hst)
  have HST := Lib.hid hst
  clear HC HB hst
  go_wp2_with fail
  refine (bookWasOf w w1 p base pass vB vW vG _ HB1.out).mono ?_
  rintro e w2 ⟨rfl, rfl⟩
  go_wp2_with fail
  refine (bookWasToo w w2 p base pass vB vW vG _ HB1.out).mono ?_
  rintro e w3 ⟨rfl, rfl⟩
  go_wp2
  go_ret
  exact ⟨rfl, HST.out⟩
set_option maxRecDepth 100000 in
set_option maxHeartbeats 2000000 in
theorem bookWrite (w W : World) (p : Nat) (base pass : Int) (vB vW vG : Value) (es : List Ent) (rest : List It) (hraw : ∀ E ∈ es, Raw E) (hn : es.length ≤ 1000000) (hid : 0 ≤ base ∧ base ≤ 1000000) (hlen : ∀ E ∈ es, E.l.length ≤ 140737488355328)
   (hB : Bag w W (.bk p base pass vB vW vG :: .ls 22 vB (es.map Ent.v) :: (es.map (It.ent 5) ++ rest))) :
   Calls Tryz.prog 35 #[.pointer (some ⟨p, 0, none⟩)] W fun e W' => (∃ v, e = .returned v) ∧ Bag w W' (.bk p base pass vB vW vG :: .ls 22 vB (es.map Ent.v) :: ((wrAll pass base es).map (It.ent 5) ++ rest)) := by
  have HC := Lib.hid (bytesWrite w W p base pass base vB vW vG es rest hraw hn hid hlen hB)
  obtain ⟨b0, f0⟩ := bkCell hB 0 (.int .i64 base) rfl
  clear hB hraw hlen
  go_enter Tryz.func35, Tryz.ntmps35
  go_wp2_with fail
  refine HC.out.mono ?_
  rintro e w' ⟨rfl, hB⟩
  obtain ⟨b5, f5⟩ := bkCell hB 5 (.slice none 0 0) rfl
  obtain ⟨b8, f8⟩ := bkCell hB 8 (.slice none 0 0) rfl
  obtain ⟨b11, f11⟩ := bkCell hB 11 (.slice none 0 0) rfl
  obtain ⟨b14, f14⟩ := bkCell hB 14 (.slice none 0 0) rfl
  obtain ⟨b17, f17⟩ := bkCell hB 17 (.slice none 0 0) rfl
  obtain ⟨b20, f20⟩ := bkCell hB 20 (.slice none 0 0) rfl
  obtain ⟨b23, f23⟩ := bkCell hB 23 (.slice none 0 0) rfl
  obtain ⟨b26, f26⟩ := bkCell hB 26 (.slice none 0 0) rfl
  obtain ⟨b29, f29⟩ := bkCell hB 29 (.slice none 0 0) rfl
  obtain ⟨b32, f32⟩ := bkCell hB 32 (.slice none 0 0) rfl
  obtain ⟨b35, f35⟩ := bkCell hB 35 (.slice none 0 0) rfl
  obtain ⟨b38, f38⟩ := bkCell hB 38 (.slice none 0 0) rfl
  obtain ⟨b41, f41⟩ := bkCell hB 41 (.slice none 0 0) rfl
  obtain ⟨b44, f44⟩ := bkCell hB 44 (.slice none 0 0) rfl
  obtain ⟨b47, f47⟩ := bkCell hB 47 (.slice none 0 0) rfl
  obtain ⟨b50, f50⟩ := bkCell hB 50 (.slice none 0 0) rfl
  have HB := Lib.hid hB
  clear hB HC b0 f0
  go_wp2_with fail
  refine (boolsWrite0 p _ _ b5).mono ?_
  rintro e w' ⟨rfl, hw⟩
  obtain rfl := hw
  go_wp2_with fail
  refine (intsWrite0 p _ _ b8).mono ?_
  rintro e w' ⟨rfl, hw⟩
  obtain rfl := hw
  go_wp2_with fail
  refine (textsWrite0 p _ _ b11).mono ?_
  rintro e w' ⟨rfl, hw⟩
  obtain rfl := hw
  go_wp2_with fail
  refine (byteListsWrite0 p _ _ b14).mono ?_
  rintro e w' ⟨rfl, hw⟩
  obtain rfl := hw
  go_wp2_with fail
  refine (prefixesWrite0 p _ _ b17).mono ?_
  rintro e w' ⟨rfl, hw⟩
  obtain rfl := hw
  go_wp2_with fail
  refine (openingsWrite0 p _ _ b20).mono ?_
  rintro e w' ⟨rfl, hw⟩
  obtain rfl := hw
  go_wp2_with fail
  refine (peersWrite0 p _ _ b23).mono ?_
  rintro e w' ⟨rfl, hw⟩
  obtain rfl := hw
  go_wp2_with fail
  refine (lanesWrite0 p _ _ b26).mono ?_
  rintro e w' ⟨rfl, hw⟩
  obtain rfl := hw
  go_wp2_with fail
  refine (rowsWrite0 p _ _ b29).mono ?_
  rintro e w' ⟨rfl, hw⟩
  obtain rfl := hw
  go_wp2_with fail
  refine (setsWrite0 p _ _ b32).mono ?_
  rintro e w' ⟨rfl, hw⟩
  obtain rfl := hw
  go_wp2_with fail
  refine (pendingsWrite0 p _ _ b35).mono ?_
  rintro e w' ⟨rfl, hw⟩
  obtain rfl := hw
  go_wp2_with fail
  refine (changesWrite0 p _ _ b38).mono ?_
  rintro e w' ⟨rfl, hw⟩
  obtain rfl := hw
  go_wp2_with fail
  refine (faultsWrite0 p _ _ b41).mono ?_
  rintro e w' ⟨rfl, hw⟩
  obtain rfl := hw
  go_wp2_with fail
  refine (flightsWrite0 p _ _ b44).mono ?_
  rintro e w' ⟨rfl, hw⟩
  obtain rfl := hw
  go_wp2_with fail
  refine (opsWrite0 p _ _ b47).mono ?_
  rintro e w' ⟨rfl, hw⟩
  obtain rfl := hw
  go_wp2_with fail
  refine (eventsWrite0 p _ _ b50).mono ?_
  rintro e w' ⟨rfl, hw⟩
  obtain rfl := hw
  go_wp2
  refine bodyPost_end (results_none rfl _ _ _) rfl ?_
  exact ⟨⟨_, rfl⟩, HB.out⟩
set_option maxRecDepth 100000 in
set_option maxHeartbeats 2000000 in
theorem bookHoldsE (w W : World) (p : Nat) (base pass : Int) (vB vW : Value) (es : List Ent) (rest : List It) (hs : Shows pass base es) (hn : es.length ≤ 1000000) (hid : 0 ≤ base ∧ base ≤ 1000000)
   (hB : Bag w W (.bk p base pass vB vW (.slice none 0 0) :: .ls 22 vB (es.map Ent.v) :: (es.map (It.ent 5) ++ rest))) :
   Calls Tryz.prog 36 #[.pointer (some ⟨p, 0, none⟩)] W fun e W' => e = .returned (.bool true) ∧ W' = W := by
  have HC := Lib.hid (bytesHoldE w W p base pass base vB vW es rest hs hn hid hB)
  obtain ⟨b0, f0⟩ := bkCell hB 0 (.int .i64 base) rfl
  obtain ⟨b5, f5⟩ := bkCell hB 5 (.slice none 0 0) rfl
  obtain ⟨b8, f8⟩ := bkCell hB 8 (.slice none 0 0) rfl
  obtain ⟨b11, f11⟩ := bkCell hB 11 (.slice none 0 0) rfl
  obtain ⟨b14, f14⟩ := bkCell hB 14 (.slice none 0 0) rfl
  obtain ⟨b17, f17⟩ := bkCell hB 17 (.slice none 0 0) rfl
  obtain ⟨b20, f20⟩ := bkCell hB 20 (.slice none 0 0) rfl
  obtain ⟨b23, f23⟩ := bkCell hB 23 (.slice none 0 0) rfl
  obtain ⟨b26, f26⟩ := bkCell hB 26 (.slice none 0 0) rfl
  obtain ⟨b29, f29⟩ := bkCell hB 29 (.slice none 0 0) rfl
  obtain ⟨b32, f32⟩ := bkCell hB 32 (.slice none 0 0) rfl
  obtain ⟨b35, f35⟩ := bkCell hB 35 (.slice none 0 0) rfl
  obtain ⟨b38, f38⟩ := bkCell hB 38 (.slice none 0 0) rfl
  obtain ⟨b41, f41⟩ := bkCell hB 41 (.slice none 0 0) rfl
  obtain ⟨b44, f44⟩ := bkCell hB 44 (.slice none 0 0) rfl
  obtain ⟨b47, f47⟩ := bkCell hB 47 (.slice none 0 0) rfl
  obtain ⟨b50, f50⟩ := bkCell hB 50 (.slice none 0 0) rfl
  clear hB hs
  go_enter Tryz.func36, Tryz.ntmps36
  go_wp2_with fail
  refine HC.out.mono ?_
  rintro e w' ⟨rfl, hw⟩
  obtain rfl := hw
  clear HC
  go_wp2_with fail
  refine (boolsHold0 p _ _ b5).mono ?_
  rintro e w' ⟨rfl, hw⟩
  obtain rfl := hw
  go_wp2_with fail
  refine (intsHold0 p _ _ b8).mono ?_
  rintro e w' ⟨rfl, hw⟩
  obtain rfl := hw
  go_wp2_with fail
  refine (textsHold0 p _ _ b11).mono ?_
  rintro e w' ⟨rfl, hw⟩
  obtain rfl := hw
  go_wp2_with fail
  refine (byteListsHold0 p _ _ b14).mono ?_
  rintro e w' ⟨rfl, hw⟩
  obtain rfl := hw
  go_wp2_with fail
  refine (prefixesHold0 p _ _ b17).mono ?_
  rintro e w' ⟨rfl, hw⟩
  obtain rfl := hw
  go_wp2_with fail
  refine (openingsHold0 p _ _ b20).mono ?_
  rintro e w' ⟨rfl, hw⟩
  obtain rfl := hw
  go_wp2_with fail
  refine (peersHold0 p _ _ b23).mono ?_
  rintro e w' ⟨rfl, hw⟩
  obtain rfl := hw
  go_wp2_with fail
  refine (lanesHold0 p _ _ b26).mono ?_
  rintro e w' ⟨rfl, hw⟩
  obtain rfl := hw
  go_wp2_with fail
  refine (rowsHold0 p _ _ b29).mono ?_
  rintro e w' ⟨rfl, hw⟩
  obtain rfl := hw
  go_wp2_with fail
  refine (setsHold0 p _ _ b32).mono ?_
  rintro e w' ⟨rfl, hw⟩
  obtain rfl := hw
  go_wp2_with fail
  refine (pendingsHold0 p _ _ b35).mono ?_
  rintro e w' ⟨rfl, hw⟩
  obtain rfl := hw
  go_wp2_with fail
  refine (changesHold0 p _ _ b38).mono ?_
  rintro e w' ⟨rfl, hw⟩
  obtain rfl := hw
  go_wp2_with fail
  refine (faultsHold0 p _ _ b41).mono ?_
  rintro e w' ⟨rfl, hw⟩
  obtain rfl := hw
  go_wp2_with fail
  refine (flightsHold0 p _ _ b44).mono ?_
  rintro e w' ⟨rfl, hw⟩
  obtain rfl := hw
  go_wp2_with fail
  refine (opsHold0 p _ _ b47).mono ?_
  rintro e w' ⟨rfl, hw⟩
  obtain rfl := hw
  go_wp2_with fail
  refine (eventsHold0 p _ _ b50).mono ?_
  rintro e w' ⟨rfl, hw⟩
  obtain rfl := hw
  go_wp2
  go_ret
  exact ⟨rfl, rfl⟩
set_option maxRecDepth 100000 in
set_option maxHeartbeats 2000000 in
theorem bookHoldsF (w W : World) (p : Nat) (base pass : Int) (vB vW vG : Value) (es : List Ent) (rest : List It) (hs : Shows pass base es) (hn : es.length ≤ 1000000) (hid : 0 ≤ base ∧ base ≤ 1000000)
   (hB : Bag w W (.bk p base pass vB vW vG :: .ls 22 vB (es.map Ent.v) :: .ls 22 vG (es.map Ent.g) :: (es.map (It.ent 5) ++ rest))) :
   Calls Tryz.prog 36 #[.pointer (some ⟨p, 0, none⟩)] W fun e W' => e = .returned (.bool true) ∧ W' = W := by
  have HC := Lib.hid (bytesHoldF w W p base pass base vB vW vG es rest hs hn hid hB)
  obtain ⟨b0, f0⟩ := bkCell hB 0 (.int .i64 base) rfl
  obtain ⟨b5, f5⟩ := bkCell hB 5 (.slice none 0 0) rfl
  obtain ⟨b8, f8⟩ := bkCell hB 8 (.slice none 0 0) rfl
  obtain ⟨b11, f11⟩ := bkCell hB 11 (.slice none 0 0) rfl
  obtain ⟨b14, f14⟩ := bkCell hB 14 (.slice none 0 0) rfl
  obtain ⟨b17, f17⟩ := bkCell hB 17 (.slice none 0 0) rfl
  obtain ⟨b20, f20⟩ := bkCell hB 20 (.slice none 0 0) rfl
  obtain ⟨b23, f23⟩ := bkCell hB 23 (.slice none 0 0) rfl
  obtain ⟨b26, f26⟩ := bkCell hB 26 (.slice none 0 0) rfl
  obtain ⟨b29, f29⟩ := bkCell hB 29 (.slice none 0 0) rfl
  obtain ⟨b32, f32⟩ := bkCell hB 32 (.slice none 0 0) rfl
  obtain ⟨b35, f35⟩ := bkCell hB 35 (.slice none 0 0) rfl
  obtain ⟨b38, f38⟩ := bkCell hB 38 (.slice none 0 0) rfl
  obtain ⟨b41, f41⟩ := bkCell hB 41 (.slice none 0 0) rfl
  obtain ⟨b44, f44⟩ := bkCell hB 44 (.slice none 0 0) rfl
  obtain ⟨b47, f47⟩ := bkCell hB 47 (.slice none 0 0) rfl
  obtain ⟨b50, f50⟩ := bkCell hB 50 (.slice none 0 0) rfl
  clear hB hs
  go_enter Tryz.func36, Tryz.ntmps36
  go_wp2_with fail
  refine HC.out.mono ?_
  rintro e w' ⟨rfl, hw⟩
  obtain rfl := hw
  clear HC
  go_wp2_with fail
  refine (boolsHold0 p _ _ b5).mono ?_
  rintro e w' ⟨rfl, hw⟩
  obtain rfl := hw
  go_wp2_with fail
  refine (intsHold0 p _ _ b8).mono ?_
  rintro e w' ⟨rfl, hw⟩
  obtain rfl := hw
  go_wp2_with fail
  refine (textsHold0 p _ _ b11).mono ?_
  rintro e w' ⟨rfl, hw⟩
  obtain rfl := hw
  go_wp2_with fail
  refine (byteListsHold0 p _ _ b14).mono ?_
  rintro e w' ⟨rfl, hw⟩
  obtain rfl := hw
  go_wp2_with fail
  refine (prefixesHold0 p _ _ b17).mono ?_
  rintro e w' ⟨rfl, hw⟩
  obtain rfl := hw
  go_wp2_with fail
  refine (openingsHold0 p _ _ b20).mono ?_
  rintro e w' ⟨rfl, hw⟩
  obtain rfl := hw
  go_wp2_with fail
  refine (peersHold0 p _ _ b23).mono ?_
  rintro e w' ⟨rfl, hw⟩
  obtain rfl := hw
  go_wp2_with fail
  refine (lanesHold0 p _ _ b26).mono ?_
  rintro e w' ⟨rfl, hw⟩
  obtain rfl := hw
  go_wp2_with fail
  refine (rowsHold0 p _ _ b29).mono ?_
  rintro e w' ⟨rfl, hw⟩
  obtain rfl := hw
  go_wp2_with fail
  refine (setsHold0 p _ _ b32).mono ?_
  rintro e w' ⟨rfl, hw⟩
  obtain rfl := hw
  go_wp2_with fail
  refine (pendingsHold0 p _ _ b35).mono ?_
  rintro e w' ⟨rfl, hw⟩
  obtain rfl := hw
  go_wp2_with fail
  refine (changesHold0 p _ _ b38).mono ?_
  rintro e w' ⟨rfl, hw⟩
  obtain rfl := hw
  go_wp2_with fail
  refine (faultsHold0 p _ _ b41).mono ?_
  rintro e w' ⟨rfl, hw⟩
  obtain rfl := hw
  go_wp2_with fail
  refine (flightsHold0 p _ _ b44).mono ?_
  rintro e w' ⟨rfl, hw⟩
  obtain rfl := hw
  go_wp2_with fail
  refine (opsHold0 p _ _ b47).mono ?_
  rintro e w' ⟨rfl, hw⟩
  obtain rfl := hw
  go_wp2_with fail
  refine (eventsHold0 p _ _ b50).mono ?_
  rintro e w' ⟨rfl, hw⟩
  obtain rfl := hw
  go_wp2
  go_ret
  exact ⟨rfl, rfl⟩
/-- Grown n times: what every list then shows. -/
def Gro (pass base : Int) (n : Nat) (k : Nat) (es : List Ent) : Prop := es.length = n ∧ ∀ (j : Nat) (E : Ent), es[j]? = some E → E.l = marks pass (base + j + 1) E.l.length ∧ E.m = marks pass (base + j + 1) E.m.length ∧ E.l.length ≤ 1000000 ∧ E.m.length ≤ 1000000 + k
theorem gro_step {first : Bool} {pass base : Int} {n k : Nat} {es es' : List Ent} (h : Gro pass base n k es) (hl : es'.length = es.length) (hg : Grew first pass base es es') : Gro pass base n (k + 1) es' := by
  refine ⟨hl.trans h.1, fun j E' hE' => ?_⟩
  obtain ⟨hj, rfl⟩ := List.getElem?_eq_some_iff.1 hE'
  have hE : es[j]? = some es[j] := List.getElem?_eq_getElem (by omega)
  obtain ⟨g1, g2, g3, g4⟩ := hg j _ _ hE hE'
  obtain ⟨h1, h2, h3, h4⟩ := h.2 j _ hE
  refine ⟨by rw [g3]; exact h1, ?_, by rw [g3]; exact h3, ?_⟩
  · rw [g4]
    cases first with
    | true =>
      simp only [if_true, List.length_append, List.length_singleton]
      rw [marks_succ, ← h1]
    | false =>
      simp only [Bool.false_eq_true, if_false, List.length_append, List.length_singleton]
      rw [marks_succ, ← h2]
  · rw [g4]
    cases first with
    | true => simp only [if_true, List.length_append, List.length_singleton]; omega
    | false => simp only [Bool.false_eq_true, if_false, List.length_append, List.length_singleton]; omega
set_option maxRecDepth 100000 in
set_option maxHeartbeats 8000000 in
theorem bookGrow (w W : World) (p : Nat) (base pass : Int) (vB vW : Value) (es : List Ent) (rest : List It) (hn : es.length ≤ 1000000) (hid : 0 ≤ base ∧ base ≤ 1000000) (hg : Gro pass base es.length 0 es)
   (hB : Bag w W (.bk p base pass vB vW (.slice none 0 0) :: .ls 22 vB (es.map Ent.v) :: .ls 22 (.slice none 0 0) [] :: (es.map (It.ent 5) ++ rest))) :
   Calls Tryz.prog 37 #[.pointer (some ⟨p, 0, none⟩)] W fun e W' => (∃ v, e = .returned v) ∧ ∃ es' vG, Gro pass base es.length 70 es' ∧ Bag w W' (.bk p base pass vB vW vG :: .ls 22 vB (es'.map Ent.v) :: .ls 22 vG (es'.map Ent.g) :: (es'.map (It.ent 5) ++ rest)) := by
  have HB := Lib.hid hB
  have HG := Lib.hid hg
  clear hB hg
  go_enter Tryz.func37, Tryz.ntmps37
  go_wp2
  go_loopw [2, 3] (fun t _ wr => ∃ (k : Nat) (es' : List Ent) (vG : Value) (gs : List Value), k ≤ 70 ∧ t = .int .i64 k ∧ (k = 0 → vG = .slice none 0 0 ∧ gs = []) ∧ (0 < k → gs = es'.map Ent.g) ∧ Gro pass base es.length k es' ∧ Bag w wr (.bk p base pass vB vW vG :: .ls 22 vB (es'.map Ent.v) :: .ls 22 vG gs :: (es'.map (It.ent 5) ++ rest))) (fun t _ _ => 70 - (intOf t).toNat)
  case atStart => exact ⟨0, es, _, [], Nat.zero_le _, rfl, fun _ => ⟨rfl, rfl⟩, fun h => absurd h (by omega), HG.out, HB.out⟩
  case round =>
    obtain ⟨k, es', vG, gs, hk, rfl, hk0, hk1, hgr, hB⟩ := hrel
    clear HB HG
    have HGr := Lib.hid hgr
    have hn' : es'.length ≤ 1000000 := by rw [hgr.1]; exact hn
    have HN := Lib.hid hgr.1
    have HL := Lib.hid (show ∀ E ∈ es', E.l.length ≤ 1000000000 ∧ E.m.length ≤ 1000000000 from by
      intro E hE
      obtain ⟨j, hj⟩ := List.mem_iff_getElem?.1 hE
      obtain ⟨_, _, h3, h4⟩ := hgr.2 j E hj
      exact ⟨by omega, by omega⟩)
    have HK0 := Lib.hid hk0
    have HK1 := Lib.hid hk1
    clear hgr hk0 hk1
    by_cases hlt : k < 70
    · obtain ⟨b0, f0⟩ := bkCell hB 0 (.int .i64 base) rfl
      have HB := Lib.hid hB
      clear hB
      by_cases hz : k = 0
      · subst hz
        obtain ⟨rfl, rfl⟩ := HK0.out rfl
        have HC := Lib.hid (bytesGrowF w wr p base pass base vB vW es' rest hn' hid HL.out HB.out)
        clear HB HL HK0 HK1
        go_wp2_with fail
        refine HC.out.mono ?_
        rintro e w' ⟨rfl, es2, vG2, hl2, hgw, hB⟩
        have HG2 := Lib.hid (gro_step HGr.out hl2 hgw)
        obtain ⟨b5, f5⟩ := bkCell hB 5 (.slice none 0 0) rfl
        obtain ⟨b8, f8⟩ := bkCell hB 8 (.slice none 0 0) rfl
        obtain ⟨b11, f11⟩ := bkCell hB 11 (.slice none 0 0) rfl
        obtain ⟨b14, f14⟩ := bkCell hB 14 (.slice none 0 0) rfl
        obtain ⟨b17, f17⟩ := bkCell hB 17 (.slice none 0 0) rfl
        obtain ⟨b20, f20⟩ := bkCell hB 20 (.slice none 0 0) rfl
        obtain ⟨b23, f23⟩ := bkCell hB 23 (.slice none 0 0) rfl
        obtain ⟨b26, f26⟩ := bkCell hB 26 (.slice none 0 0) rfl
        obtain ⟨b29, f29⟩ := bkCell hB 29 (.slice none 0 0) rfl
        obtain ⟨b32, f32⟩ := bkCell hB 32 (.slice none 0 0) rfl
        obtain ⟨b35, f35⟩ := bkCell hB 35 (.slice none 0 0) rfl
        obtain ⟨b38, f38⟩ := bkCell hB 38 (.slice none 0 0) rfl
        obtain ⟨b41, f41⟩ := bkCell hB 41 (.slice none 0 0) rfl
        obtain ⟨b44, f44⟩ := bkCell hB 44 (.slice none 0 0) rfl
        obtain ⟨b47, f47⟩ := bkCell hB 47 (.slice none 0 0) rfl
        obtain ⟨b50, f50⟩ := bkCell hB 50 (.slice none 0 0) rfl
        have HB := Lib.hid hB
        clear hB HC b0 f0 hl2 hgw HGr
        go_wp2_with fail
        refine (boolsGrow0 (_) p _ _ b5).mono ?_
        rintro e w' ⟨rfl, hw⟩
        obtain rfl := hw
        go_wp2_with fail
        refine (intsGrow0 (_) p _ _ b8).mono ?_
        rintro e w' ⟨rfl, hw⟩
        obtain rfl := hw
        go_wp2_with fail
        refine (textsGrow0 (_) p _ _ b11).mono ?_
        rintro e w' ⟨rfl, hw⟩
        obtain rfl := hw
        go_wp2_with fail
        refine (byteListsGrow0 (_) p _ _ b14).mono ?_
        rintro e w' ⟨rfl, hw⟩
        obtain rfl := hw
        go_wp2_with fail
        refine (prefixesGrow0 (_) p _ _ b17).mono ?_
        rintro e w' ⟨rfl, hw⟩
        obtain rfl := hw
        go_wp2_with fail
        refine (openingsGrow0 (_) p _ _ b20).mono ?_
        rintro e w' ⟨rfl, hw⟩
        obtain rfl := hw
        go_wp2_with fail
        refine (peersGrow0 (_) p _ _ b23).mono ?_
        rintro e w' ⟨rfl, hw⟩
        obtain rfl := hw
        go_wp2_with fail
        refine (lanesGrow0 (_) p _ _ b26).mono ?_
        rintro e w' ⟨rfl, hw⟩
        obtain rfl := hw
        go_wp2_with fail
        refine (rowsGrow0 (_) p _ _ b29).mono ?_
        rintro e w' ⟨rfl, hw⟩
        obtain rfl := hw
        go_wp2_with fail
        refine (setsGrow0 (_) p _ _ b32).mono ?_
        rintro e w' ⟨rfl, hw⟩
        obtain rfl := hw
        go_wp2_with fail
        refine (pendingsGrow0 (_) p _ _ b35).mono ?_
        rintro e w' ⟨rfl, hw⟩
        obtain rfl := hw
        go_wp2_with fail
        refine (changesGrow0 (_) p _ _ b38).mono ?_
        rintro e w' ⟨rfl, hw⟩
        obtain rfl := hw
        go_wp2_with fail
        refine (faultsGrow0 (_) p _ _ b41).mono ?_
        rintro e w' ⟨rfl, hw⟩
        obtain rfl := hw
        go_wp2_with fail
        refine (flightsGrow0 (_) p _ _ b44).mono ?_
        rintro e w' ⟨rfl, hw⟩
        obtain rfl := hw
        go_wp2_with fail
        refine (opsGrow0 (_) p _ _ b47).mono ?_
        rintro e w' ⟨rfl, hw⟩
        obtain rfl := hw
        go_wp2_with fail
        refine (eventsGrow0 (_) p _ _ b50).mono ?_
        rintro e w' ⟨rfl, hw⟩
        obtain rfl := hw
        go_wp2_with fail
        go_roundw
        case rel => exact ⟨1, es2, vG2, es2.map Ent.g, by omega, rfl, fun h => absurd h (by omega), fun _ => rfl, HG2.out, HB.out⟩
        case measure => simp [intOf]
      · obtain rfl := HK1.out (by omega)
        have HC := Lib.hid (bytesGrowN w wr p base pass base vB vW vG es' rest (k : Int) (by omega) hn' hid HL.out HB.out)
        clear HB HL HK0 HK1
        go_wp2_with fail
        refine HC.out.mono ?_
        rintro e w' ⟨rfl, es2, vG2, hl2, hgw, hB⟩
        have HG2 := Lib.hid (gro_step HGr.out hl2 hgw)
        obtain ⟨b5, f5⟩ := bkCell hB 5 (.slice none 0 0) rfl
        obtain ⟨b8, f8⟩ := bkCell hB 8 (.slice none 0 0) rfl
        obtain ⟨b11, f11⟩ := bkCell hB 11 (.slice none 0 0) rfl
        obtain ⟨b14, f14⟩ := bkCell hB 14 (.slice none 0 0) rfl
        obtain ⟨b17, f17⟩ := bkCell hB 17 (.slice none 0 0) rfl
        obtain ⟨b20, f20⟩ := bkCell hB 20 (.slice none 0 0) rfl
        obtain ⟨b23, f23⟩ := bkCell hB 23 (.slice none 0 0) rfl
        obtain ⟨b26, f26⟩ := bkCell hB 26 (.slice none 0 0) rfl
        obtain ⟨b29, f29⟩ := bkCell hB 29 (.slice none 0 0) rfl
        obtain ⟨b32, f32⟩ := bkCell hB 32 (.slice none 0 0) rfl
        obtain ⟨b35, f35⟩ := bkCell hB 35 (.slice none 0 0) rfl
        obtain ⟨b38, f38⟩ := bkCell hB 38 (.slice none 0 0) rfl
        obtain ⟨b41, f41⟩ := bkCell hB 41 (.slice none 0 0) rfl
        obtain ⟨b44, f44⟩ := bkCell hB 44 (.slice none 0 0) rfl
        obtain ⟨b47, f47⟩ := bkCell hB 47 (.slice none 0 0) rfl
        obtain ⟨b50, f50⟩ := bkCell hB 50 (.slice none 0 0) rfl
        have HB := Lib.hid hB
        clear hB HC b0 f0 hl2 hgw HGr
        go_wp2_with fail
        refine (boolsGrow0 (_) p _ _ b5).mono ?_
        rintro e w' ⟨rfl, hw⟩
        obtain rfl := hw
        go_wp2_with fail
        refine (intsGrow0 (_) p _ _ b8).mono ?_
        rintro e w' ⟨rfl, hw⟩
        obtain rfl := hw
        go_wp2_with fail
        refine (textsGrow0 (_) p _ _ b11).mono ?_
        rintro e w' ⟨rfl, hw⟩
        obtain rfl := hw
        go_wp2_with fail
        refine (byteListsGrow0 (_) p _ _ b14).mono ?_
        rintro e w' ⟨rfl, hw⟩
        obtain rfl := hw
        go_wp2_with fail
        refine (prefixesGrow0 (_) p _ _ b17).mono ?_
        rintro e w' ⟨rfl, hw⟩
        obtain rfl := hw
        go_wp2_with fail
        refine (openingsGrow0 (_) p _ _ b20).mono ?_
        rintro e w' ⟨rfl, hw⟩
        obtain rfl := hw
        go_wp2_with fail
        refine (peersGrow0 (_) p _ _ b23).mono ?_
        rintro e w' ⟨rfl, hw⟩
        obtain rfl := hw
        go_wp2_with fail
        refine (lanesGrow0 (_) p _ _ b26).mono ?_
        rintro e w' ⟨rfl, hw⟩
        obtain rfl := hw
        go_wp2_with fail
        refine (rowsGrow0 (_) p _ _ b29).mono ?_
        rintro e w' ⟨rfl, hw⟩
        obtain rfl := hw
        go_wp2_with fail
        refine (setsGrow0 (_) p _ _ b32).mono ?_
        rintro e w' ⟨rfl, hw⟩
        obtain rfl := hw
        go_wp2_with fail
        refine (pendingsGrow0 (_) p _ _ b35).mono ?_
        rintro e w' ⟨rfl, hw⟩
        obtain rfl := hw
        go_wp2_with fail
        refine (changesGrow0 (_) p _ _ b38).mono ?_
        rintro e w' ⟨rfl, hw⟩
        obtain rfl := hw
        go_wp2_with fail
        refine (faultsGrow0 (_) p _ _ b41).mono ?_
        rintro e w' ⟨rfl, hw⟩
        obtain rfl := hw
        go_wp2_with fail
        refine (flightsGrow0 (_) p _ _ b44).mono ?_
        rintro e w' ⟨rfl, hw⟩
        obtain rfl := hw
        go_wp2_with fail
        refine (opsGrow0 (_) p _ _ b47).mono ?_
        rintro e w' ⟨rfl, hw⟩
        obtain rfl := hw
        go_wp2_with fail
        refine (eventsGrow0 (_) p _ _ b50).mono ?_
        rintro e w' ⟨rfl, hw⟩
        obtain rfl := hw
        go_wp2_with fail
        go_roundw
        case rel => exact ⟨k + 1, es2, vG2, es2.map Ent.g, by omega, rfl, fun h => absurd h (by omega), fun _ => rfl, HG2.out, HB.out⟩
        case measure => simp [intOf]; omega
    · obtain rfl : k = 70 := by omega
      obtain rfl := HK1.out (by omega)
      have HB := Lib.hid hB
      clear hB HL HK0 HK1
      go_wp2
      refine bodyPost_end (results_none rfl _ _ _) rfl ?_
      exact ⟨⟨_, rfl⟩, es', vG, HGr.out, HB.out⟩
end Go.Proofs.YtjlhnepjpjlppaaGreatDoor
