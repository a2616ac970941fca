/- The sixteen kinds of lists of which nothing is kept: written over, looked at, grown: nothing happens. -/
import Derived.Test.YtjlhnepjpjlppaaGreatDoorBook0
import Derived.Test.YtjlhnepjpjlppaaGreatDoorProg
namespace Go.Proofs.YtjlhnepjpjlppaaGreatDoor
open Go.RowKit
theorem boolsWrite0 (p : Nat) (id : Int) (w : World) (h : w.cell? ⟨p, 5, none⟩ = some (.slice none 0 0)) : Calls Tryz.prog 44 #[.pointer (some ⟨p, 0, none⟩), .int .i64 id] w fun e w' => e = .returned (.int .i64 id) ∧ w = w' := by
  go_enter Tryz.func44, Tryz.ntmps44
  go_wp2
  go_loop [1, 5, 6] (fun a i _ => a = .int .i64 id ∧ i = .int .i64 0) (fun _ _ _ => 0)
  case atStart => exact ⟨rfl, rfl⟩
  case round =>
    obtain ⟨rfl, rfl⟩ := hrel
    go_wp2
    go_ret
    exact ⟨rfl, rfl⟩
theorem boolsHold0 (p : Nat) (id : Int) (w : World) (h : w.cell? ⟨p, 5, none⟩ = some (.slice none 0 0)) : Calls Tryz.prog 61 #[.pointer (some ⟨p, 0, none⟩), .int .i64 id] w fun e w' => e = .returned (.tuple #[.int .i64 id, .bool true]) ∧ w = w' := by
  go_enter Tryz.func61, Tryz.ntmps61
  go_wp2
  go_loop [1, 6, 7, 8, 9] (fun a b i _ _ => a = .int .i64 id ∧ b = .bool true ∧ i = .int .i64 0) (fun _ _ _ _ _ => 0)
  case atStart => exact ⟨rfl, rfl, rfl⟩
  case round =>
    obtain ⟨rfl, rfl, rfl⟩ := hrel
    go_wp2
    go_ret2
    exact ⟨rfl, rfl⟩
theorem boolsGrow0 (t : Int) (p : Nat) (id : Int) (w : World) (h : w.cell? ⟨p, 5, none⟩ = some (.slice none 0 0)) : Calls Tryz.prog 78 #[.pointer (some ⟨p, 0, none⟩), .int .i64 id, .int .i64 t] w fun e w' => e = .returned (.int .i64 id) ∧ w = w' := by
  go_enter Tryz.func78, Tryz.ntmps78
  go_wp2
  go_loop [1, 7, 8] (fun a i _ => a = .int .i64 id ∧ i = .int .i64 0) (fun _ _ _ => 0)
  case atStart => exact ⟨rfl, rfl⟩
  case round =>
    obtain ⟨rfl, rfl⟩ := hrel
    go_wp2
    go_ret
    exact ⟨rfl, rfl⟩
theorem intsWrite0 (p : Nat) (id : Int) (w : World) (h : w.cell? ⟨p, 8, none⟩ = some (.slice none 0 0)) : Calls Tryz.prog 45 #[.pointer (some ⟨p, 0, none⟩), .int .i64 id] w fun e w' => e = .returned (.int .i64 id) ∧ w = w' := by
  go_enter Tryz.func45, Tryz.ntmps45
  go_wp2
  go_loop [1, 5, 6] (fun a i _ => a = .int .i64 id ∧ i = .int .i64 0) (fun _ _ _ => 0)
  case atStart => exact ⟨rfl, rfl⟩
  case round =>
    obtain ⟨rfl, rfl⟩ := hrel
    go_wp2
    go_ret
    exact ⟨rfl, rfl⟩
theorem intsHold0 (p : Nat) (id : Int) (w : World) (h : w.cell? ⟨p, 8, none⟩ = some (.slice none 0 0)) : Calls Tryz.prog 62 #[.pointer (some ⟨p, 0, none⟩), .int .i64 id] w fun e w' => e = .returned (.tuple #[.int .i64 id, .bool true]) ∧ w = w' := by
  go_enter Tryz.func62, Tryz.ntmps62
  go_wp2
  go_loop [1, 6, 7, 8, 9] (fun a b i _ _ => a = .int .i64 id ∧ b = .bool true ∧ i = .int .i64 0) (fun _ _ _ _ _ => 0)
  case atStart => exact ⟨rfl, rfl, rfl⟩
  case round =>
    obtain ⟨rfl, rfl, rfl⟩ := hrel
    go_wp2
    go_ret2
    exact ⟨rfl, rfl⟩
theorem intsGrow0 (t : Int) (p : Nat) (id : Int) (w : World) (h : w.cell? ⟨p, 8, none⟩ = some (.slice none 0 0)) : Calls Tryz.prog 79 #[.pointer (some ⟨p, 0, none⟩), .int .i64 id, .int .i64 t] w fun e w' => e = .returned (.int .i64 id) ∧ w = w' := by
  go_enter Tryz.func79, Tryz.ntmps79
  go_wp2
  go_loop [1, 7, 8] (fun a i _ => a = .int .i64 id ∧ i = .int .i64 0) (fun _ _ _ => 0)
  case atStart => exact ⟨rfl, rfl⟩
  case round =>
    obtain ⟨rfl, rfl⟩ := hrel
    go_wp2
    go_ret
    exact ⟨rfl, rfl⟩
theorem textsWrite0 (p : Nat) (id : Int) (w : World) (h : w.cell? ⟨p, 11, none⟩ = some (.slice none 0 0)) : Calls Tryz.prog 46 #[.pointer (some ⟨p, 0, none⟩), .int .i64 id] w fun e w' => e = .returned (.int .i64 id) ∧ w = w' := by
  go_enter Tryz.func46, Tryz.ntmps46
  go_wp2
  go_loop [1, 5, 6] (fun a i _ => a = .int .i64 id ∧ i = .int .i64 0) (fun _ _ _ => 0)
  case atStart => exact ⟨rfl, rfl⟩
  case round =>
    obtain ⟨rfl, rfl⟩ := hrel
    go_wp2
    go_ret
    exact ⟨rfl, rfl⟩
theorem textsHold0 (p : Nat) (id : Int) (w : World) (h : w.cell? ⟨p, 11, none⟩ = some (.slice none 0 0)) : Calls Tryz.prog 63 #[.pointer (some ⟨p, 0, none⟩), .int .i64 id] w fun e w' => e = .returned (.tuple #[.int .i64 id, .bool true]) ∧ w = w' := by
  go_enter Tryz.func63, Tryz.ntmps63
  go_wp2
  go_loop [1, 6, 7, 8, 9] (fun a b i _ _ => a = .int .i64 id ∧ b = .bool true ∧ i = .int .i64 0) (fun _ _ _ _ _ => 0)
  case atStart => exact ⟨rfl, rfl, rfl⟩
  case round =>
    obtain ⟨rfl, rfl, rfl⟩ := hrel
    go_wp2
    go_ret2
    exact ⟨rfl, rfl⟩
theorem textsGrow0 (t : Int) (p : Nat) (id : Int) (w : World) (h : w.cell? ⟨p, 11, none⟩ = some (.slice none 0 0)) : Calls Tryz.prog 80 #[.pointer (some ⟨p, 0, none⟩), .int .i64 id, .int .i64 t] w fun e w' => e = .returned (.int .i64 id) ∧ w = w' := by
  go_enter Tryz.func80, Tryz.ntmps80
  go_wp2
  go_loop [1, 7, 8] (fun a i _ => a = .int .i64 id ∧ i = .int .i64 0) (fun _ _ _ => 0)
  case atStart => exact ⟨rfl, rfl⟩
  case round =>
    obtain ⟨rfl, rfl⟩ := hrel
    go_wp2
    go_ret
    exact ⟨rfl, rfl⟩
theorem byteListsWrite0 (p : Nat) (id : Int) (w : World) (h : w.cell? ⟨p, 14, none⟩ = some (.slice none 0 0)) : Calls Tryz.prog 47 #[.pointer (some ⟨p, 0, none⟩), .int .i64 id] w fun e w' => e = .returned (.int .i64 id) ∧ w = w' := by
  go_enter Tryz.func47, Tryz.ntmps47
  go_wp2
  go_loop [1, 5, 6] (fun a i _ => a = .int .i64 id ∧ i = .int .i64 0) (fun _ _ _ => 0)
  case atStart => exact ⟨rfl, rfl⟩
  case round =>
    obtain ⟨rfl, rfl⟩ := hrel
    go_wp2
    go_ret
    exact ⟨rfl, rfl⟩
theorem byteListsHold0 (p : Nat) (id : Int) (w : World) (h : w.cell? ⟨p, 14, none⟩ = some (.slice none 0 0)) : Calls Tryz.prog 64 #[.pointer (some ⟨p, 0, none⟩), .int .i64 id] w fun e w' => e = .returned (.tuple #[.int .i64 id, .bool true]) ∧ w = w' := by
  go_enter Tryz.func64, Tryz.ntmps64
  go_wp2
  go_loop [1, 6, 7, 8, 9] (fun a b i _ _ => a = .int .i64 id ∧ b = .bool true ∧ i = .int .i64 0) (fun _ _ _ _ _ => 0)
  case atStart => exact ⟨rfl, rfl, rfl⟩
  case round =>
    obtain ⟨rfl, rfl, rfl⟩ := hrel
    go_wp2
    go_ret2
    exact ⟨rfl, rfl⟩
theorem byteListsGrow0 (t : Int) (p : Nat) (id : Int) (w : World) (h : w.cell? ⟨p, 14, none⟩ = some (.slice none 0 0)) : Calls Tryz.prog 81 #[.pointer (some ⟨p, 0, none⟩), .int .i64 id, .int .i64 t] w fun e w' => e = .returned (.int .i64 id) ∧ w = w' := by
  go_enter Tryz.func81, Tryz.ntmps81
  go_wp2
  go_loop [1, 7, 8] (fun a i _ => a = .int .i64 id ∧ i = .int .i64 0) (fun _ _ _ => 0)
  case atStart => exact ⟨rfl, rfl⟩
  case round =>
    obtain ⟨rfl, rfl⟩ := hrel
    go_wp2
    go_ret
    exact ⟨rfl, rfl⟩
theorem prefixesWrite0 (p : Nat) (id : Int) (w : World) (h : w.cell? ⟨p, 17, none⟩ = some (.slice none 0 0)) : Calls Tryz.prog 48 #[.pointer (some ⟨p, 0, none⟩), .int .i64 id] w fun e w' => e = .returned (.int .i64 id) ∧ w = w' := by
  go_enter Tryz.func48, Tryz.ntmps48
  go_wp2
  go_loop [1, 5, 6] (fun a i _ => a = .int .i64 id ∧ i = .int .i64 0) (fun _ _ _ => 0)
  case atStart => exact ⟨rfl, rfl⟩
  case round =>
    obtain ⟨rfl, rfl⟩ := hrel
    go_wp2
    go_ret
    exact ⟨rfl, rfl⟩
theorem prefixesHold0 (p : Nat) (id : Int) (w : World) (h : w.cell? ⟨p, 17, none⟩ = some (.slice none 0 0)) : Calls Tryz.prog 65 #[.pointer (some ⟨p, 0, none⟩), .int .i64 id] w fun e w' => e = .returned (.tuple #[.int .i64 id, .bool true]) ∧ w = w' := by
  go_enter Tryz.func65, Tryz.ntmps65
  go_wp2
  go_loop [1, 6, 7, 8, 9] (fun a b i _ _ => a = .int .i64 id ∧ b = .bool true ∧ i = .int .i64 0) (fun _ _ _ _ _ => 0)
  case atStart => exact ⟨rfl, rfl, rfl⟩
  case round =>
    obtain ⟨rfl, rfl, rfl⟩ := hrel
    go_wp2
    go_ret2
    exact ⟨rfl, rfl⟩
theorem prefixesGrow0 (t : Int) (p : Nat) (id : Int) (w : World) (h : w.cell? ⟨p, 17, none⟩ = some (.slice none 0 0)) : Calls Tryz.prog 82 #[.pointer (some ⟨p, 0, none⟩), .int .i64 id, .int .i64 t] w fun e w' => e = .returned (.int .i64 id) ∧ w = w' := by
  go_enter Tryz.func82, Tryz.ntmps82
  go_wp2
  go_loop [1, 7, 8] (fun a i _ => a = .int .i64 id ∧ i = .int .i64 0) (fun _ _ _ => 0)
  case atStart => exact ⟨rfl, rfl⟩
  case round =>
    obtain ⟨rfl, rfl⟩ := hrel
    go_wp2
    go_ret
    exact ⟨rfl, rfl⟩
theorem openingsWrite0 (p : Nat) (id : Int) (w : World) (h : w.cell? ⟨p, 20, none⟩ = some (.slice none 0 0)) : Calls Tryz.prog 49 #[.pointer (some ⟨p, 0, none⟩), .int .i64 id] w fun e w' => e = .returned (.int .i64 id) ∧ w = w' := by
  go_enter Tryz.func49, Tryz.ntmps49
  go_wp2
  go_loop [1, 5, 6] (fun a i _ => a = .int .i64 id ∧ i = .int .i64 0) (fun _ _ _ => 0)
  case atStart => exact ⟨rfl, rfl⟩
  case round =>
    obtain ⟨rfl, rfl⟩ := hrel
    go_wp2
    go_ret
    exact ⟨rfl, rfl⟩
theorem openingsHold0 (p : Nat) (id : Int) (w : World) (h : w.cell? ⟨p, 20, none⟩ = some (.slice none 0 0)) : Calls Tryz.prog 66 #[.pointer (some ⟨p, 0, none⟩), .int .i64 id] w fun e w' => e = .returned (.tuple #[.int .i64 id, .bool true]) ∧ w = w' := by
  go_enter Tryz.func66, Tryz.ntmps66
  go_wp2
  go_loop [1, 6, 7, 8, 9] (fun a b i _ _ => a = .int .i64 id ∧ b = .bool true ∧ i = .int .i64 0) (fun _ _ _ _ _ => 0)
  case atStart => exact ⟨rfl, rfl, rfl⟩
  case round =>
    obtain ⟨rfl, rfl, rfl⟩ := hrel
    go_wp2
    go_ret2
    exact ⟨rfl, rfl⟩
theorem openingsGrow0 (t : Int) (p : Nat) (id : Int) (w : World) (h : w.cell? ⟨p, 20, none⟩ = some (.slice none 0 0)) : Calls Tryz.prog 83 #[.pointer (some ⟨p, 0, none⟩), .int .i64 id, .int .i64 t] w fun e w' => e = .returned (.int .i64 id) ∧ w = w' := by
  go_enter Tryz.func83, Tryz.ntmps83
  go_wp2
  go_loop [1, 7, 8] (fun a i _ => a = .int .i64 id ∧ i = .int .i64 0) (fun _ _ _ => 0)
  case atStart => exact ⟨rfl, rfl⟩
  case round =>
    obtain ⟨rfl, rfl⟩ := hrel
    go_wp2
    go_ret
    exact ⟨rfl, rfl⟩
theorem peersWrite0 (p : Nat) (id : Int) (w : World) (h : w.cell? ⟨p, 23, none⟩ = some (.slice none 0 0)) : Calls Tryz.prog 50 #[.pointer (some ⟨p, 0, none⟩), .int .i64 id] w fun e w' => e = .returned (.int .i64 id) ∧ w = w' := by
  go_enter Tryz.func50, Tryz.ntmps50
  go_wp2
  go_loop [1, 5, 6] (fun a i _ => a = .int .i64 id ∧ i = .int .i64 0) (fun _ _ _ => 0)
  case atStart => exact ⟨rfl, rfl⟩
  case round =>
    obtain ⟨rfl, rfl⟩ := hrel
    go_wp2
    go_ret
    exact ⟨rfl, rfl⟩
theorem peersHold0 (p : Nat) (id : Int) (w : World) (h : w.cell? ⟨p, 23, none⟩ = some (.slice none 0 0)) : Calls Tryz.prog 67 #[.pointer (some ⟨p, 0, none⟩), .int .i64 id] w fun e w' => e = .returned (.tuple #[.int .i64 id, .bool true]) ∧ w = w' := by
  go_enter Tryz.func67, Tryz.ntmps67
  go_wp2
  go_loop [1, 6, 7, 8, 9] (fun a b i _ _ => a = .int .i64 id ∧ b = .bool true ∧ i = .int .i64 0) (fun _ _ _ _ _ => 0)
  case atStart => exact ⟨rfl, rfl, rfl⟩
  case round =>
    obtain ⟨rfl, rfl, rfl⟩ := hrel
    go_wp2
    go_ret2
    exact ⟨rfl, rfl⟩
theorem peersGrow0 (t : Int) (p : Nat) (id : Int) (w : World) (h : w.cell? ⟨p, 23, none⟩ = some (.slice none 0 0)) : Calls Tryz.prog 84 #[.pointer (some ⟨p, 0, none⟩), .int .i64 id, .int .i64 t] w fun e w' => e = .returned (.int .i64 id) ∧ w = w' := by
  go_enter Tryz.func84, Tryz.ntmps84
  go_wp2
  go_loop [1, 7, 8] (fun a i _ => a = .int .i64 id ∧ i = .int .i64 0) (fun _ _ _ => 0)
  case atStart => exact ⟨rfl, rfl⟩
  case round =>
    obtain ⟨rfl, rfl⟩ := hrel
    go_wp2
    go_ret
    exact ⟨rfl, rfl⟩
theorem lanesWrite0 (p : Nat) (id : Int) (w : World) (h : w.cell? ⟨p, 26, none⟩ = some (.slice none 0 0)) : Calls Tryz.prog 51 #[.pointer (some ⟨p, 0, none⟩), .int .i64 id] w fun e w' => e = .returned (.int .i64 id) ∧ w = w' := by
  go_enter Tryz.func51, Tryz.ntmps51
  go_wp2
  go_loop [1, 5, 6] (fun a i _ => a = .int .i64 id ∧ i = .int .i64 0) (fun _ _ _ => 0)
  case atStart => exact ⟨rfl, rfl⟩
  case round =>
    obtain ⟨rfl, rfl⟩ := hrel
    go_wp2
    go_ret
    exact ⟨rfl, rfl⟩
theorem lanesHold0 (p : Nat) (id : Int) (w : World) (h : w.cell? ⟨p, 26, none⟩ = some (.slice none 0 0)) : Calls Tryz.prog 68 #[.pointer (some ⟨p, 0, none⟩), .int .i64 id] w fun e w' => e = .returned (.tuple #[.int .i64 id, .bool true]) ∧ w = w' := by
  go_enter Tryz.func68, Tryz.ntmps68
  go_wp2
  go_loop [1, 6, 7, 8, 9] (fun a b i _ _ => a = .int .i64 id ∧ b = .bool true ∧ i = .int .i64 0) (fun _ _ _ _ _ => 0)
  case atStart => exact ⟨rfl, rfl, rfl⟩
  case round =>
    obtain ⟨rfl, rfl, rfl⟩ := hrel
    go_wp2
    go_ret2
    exact ⟨rfl, rfl⟩
theorem lanesGrow0 (t : Int) (p : Nat) (id : Int) (w : World) (h : w.cell? ⟨p, 26, none⟩ = some (.slice none 0 0)) : Calls Tryz.prog 85 #[.pointer (some ⟨p, 0, none⟩), .int .i64 id, .int .i64 t] w fun e w' => e = .returned (.int .i64 id) ∧ w = w' := by
  go_enter Tryz.func85, Tryz.ntmps85
  go_wp2
  go_loop [1, 7, 8] (fun a i _ => a = .int .i64 id ∧ i = .int .i64 0) (fun _ _ _ => 0)
  case atStart => exact ⟨rfl, rfl⟩
  case round =>
    obtain ⟨rfl, rfl⟩ := hrel
    go_wp2
    go_ret
    exact ⟨rfl, rfl⟩
theorem rowsWrite0 (p : Nat) (id : Int) (w : World) (h : w.cell? ⟨p, 29, none⟩ = some (.slice none 0 0)) : Calls Tryz.prog 52 #[.pointer (some ⟨p, 0, none⟩), .int .i64 id] w fun e w' => e = .returned (.int .i64 id) ∧ w = w' := by
  go_enter Tryz.func52, Tryz.ntmps52
  go_wp2
  go_loop [1, 5, 6] (fun a i _ => a = .int .i64 id ∧ i = .int .i64 0) (fun _ _ _ => 0)
  case atStart => exact ⟨rfl, rfl⟩
  case round =>
    obtain ⟨rfl, rfl⟩ := hrel
    go_wp2
    go_ret
    exact ⟨rfl, rfl⟩
theorem rowsHold0 (p : Nat) (id : Int) (w : World) (h : w.cell? ⟨p, 29, none⟩ = some (.slice none 0 0)) : Calls Tryz.prog 69 #[.pointer (some ⟨p, 0, none⟩), .int .i64 id] w fun e w' => e = .returned (.tuple #[.int .i64 id, .bool true]) ∧ w = w' := by
  go_enter Tryz.func69, Tryz.ntmps69
  go_wp2
  go_loop [1, 6, 7, 8, 9] (fun a b i _ _ => a = .int .i64 id ∧ b = .bool true ∧ i = .int .i64 0) (fun _ _ _ _ _ => 0)
  case atStart => exact ⟨rfl, rfl, rfl⟩
  case round =>
    obtain ⟨rfl, rfl, rfl⟩ := hrel
    go_wp2
    go_ret2
    exact ⟨rfl, rfl⟩
theorem rowsGrow0 (t : Int) (p : Nat) (id : Int) (w : World) (h : w.cell? ⟨p, 29, none⟩ = some (.slice none 0 0)) : Calls Tryz.prog 86 #[.pointer (some ⟨p, 0, none⟩), .int .i64 id, .int .i64 t] w fun e w' => e = .returned (.int .i64 id) ∧ w = w' := by
  go_enter Tryz.func86, Tryz.ntmps86
  go_wp2
  go_loop [1, 7, 8] (fun a i _ => a = .int .i64 id ∧ i = .int .i64 0) (fun _ _ _ => 0)
  case atStart => exact ⟨rfl, rfl⟩
  case round =>
    obtain ⟨rfl, rfl⟩ := hrel
    go_wp2
    go_ret
    exact ⟨rfl, rfl⟩
theorem setsWrite0 (p : Nat) (id : Int) (w : World) (h : w.cell? ⟨p, 32, none⟩ = some (.slice none 0 0)) : Calls Tryz.prog 53 #[.pointer (some ⟨p, 0, none⟩), .int .i64 id] w fun e w' => e = .returned (.int .i64 id) ∧ w = w' := by
  go_enter Tryz.func53, Tryz.ntmps53
  go_wp2
  go_loop [1, 5, 6] (fun a i _ => a = .int .i64 id ∧ i = .int .i64 0) (fun _ _ _ => 0)
  case atStart => exact ⟨rfl, rfl⟩
  case round =>
    obtain ⟨rfl, rfl⟩ := hrel
    go_wp2
    go_ret
    exact ⟨rfl, rfl⟩
theorem setsHold0 (p : Nat) (id : Int) (w : World) (h : w.cell? ⟨p, 32, none⟩ = some (.slice none 0 0)) : Calls Tryz.prog 70 #[.pointer (some ⟨p, 0, none⟩), .int .i64 id] w fun e w' => e = .returned (.tuple #[.int .i64 id, .bool true]) ∧ w = w' := by
  go_enter Tryz.func70, Tryz.ntmps70
  go_wp2
  go_loop [1, 6, 7, 8, 9] (fun a b i _ _ => a = .int .i64 id ∧ b = .bool true ∧ i = .int .i64 0) (fun _ _ _ _ _ => 0)
  case atStart => exact ⟨rfl, rfl, rfl⟩
  case round =>
    obtain ⟨rfl, rfl, rfl⟩ := hrel
    go_wp2
    go_ret2
    exact ⟨rfl, rfl⟩
theorem setsGrow0 (t : Int) (p : Nat) (id : Int) (w : World) (h : w.cell? ⟨p, 32, none⟩ = some (.slice none 0 0)) : Calls Tryz.prog 87 #[.pointer (some ⟨p, 0, none⟩), .int .i64 id, .int .i64 t] w fun e w' => e = .returned (.int .i64 id) ∧ w = w' := by
  go_enter Tryz.func87, Tryz.ntmps87
  go_wp2
  go_loop [1, 7, 8] (fun a i _ => a = .int .i64 id ∧ i = .int .i64 0) (fun _ _ _ => 0)
  case atStart => exact ⟨rfl, rfl⟩
  case round =>
    obtain ⟨rfl, rfl⟩ := hrel
    go_wp2
    go_ret
    exact ⟨rfl, rfl⟩
theorem pendingsWrite0 (p : Nat) (id : Int) (w : World) (h : w.cell? ⟨p, 35, none⟩ = some (.slice none 0 0)) : Calls Tryz.prog 54 #[.pointer (some ⟨p, 0, none⟩), .int .i64 id] w fun e w' => e = .returned (.int .i64 id) ∧ w = w' := by
  go_enter Tryz.func54, Tryz.ntmps54
  go_wp2
  go_loop [1, 5, 6] (fun a i _ => a = .int .i64 id ∧ i = .int .i64 0) (fun _ _ _ => 0)
  case atStart => exact ⟨rfl, rfl⟩
  case round =>
    obtain ⟨rfl, rfl⟩ := hrel
    go_wp2
    go_ret
    exact ⟨rfl, rfl⟩
theorem pendingsHold0 (p : Nat) (id : Int) (w : World) (h : w.cell? ⟨p, 35, none⟩ = some (.slice none 0 0)) : Calls Tryz.prog 71 #[.pointer (some ⟨p, 0, none⟩), .int .i64 id] w fun e w' => e = .returned (.tuple #[.int .i64 id, .bool true]) ∧ w = w' := by
  go_enter Tryz.func71, Tryz.ntmps71
  go_wp2
  go_loop [1, 6, 7, 8, 9] (fun a b i _ _ => a = .int .i64 id ∧ b = .bool true ∧ i = .int .i64 0) (fun _ _ _ _ _ => 0)
  case atStart => exact ⟨rfl, rfl, rfl⟩
  case round =>
    obtain ⟨rfl, rfl, rfl⟩ := hrel
    go_wp2
    go_ret2
    exact ⟨rfl, rfl⟩
theorem pendingsGrow0 (t : Int) (p : Nat) (id : Int) (w : World) (h : w.cell? ⟨p, 35, none⟩ = some (.slice none 0 0)) : Calls Tryz.prog 88 #[.pointer (some ⟨p, 0, none⟩), .int .i64 id, .int .i64 t] w fun e w' => e = .returned (.int .i64 id) ∧ w = w' := by
  go_enter Tryz.func88, Tryz.ntmps88
  go_wp2
  go_loop [1, 7, 8] (fun a i _ => a = .int .i64 id ∧ i = .int .i64 0) (fun _ _ _ => 0)
  case atStart => exact ⟨rfl, rfl⟩
  case round =>
    obtain ⟨rfl, rfl⟩ := hrel
    go_wp2
    go_ret
    exact ⟨rfl, rfl⟩
theorem changesWrite0 (p : Nat) (id : Int) (w : World) (h : w.cell? ⟨p, 38, none⟩ = some (.slice none 0 0)) : Calls Tryz.prog 55 #[.pointer (some ⟨p, 0, none⟩), .int .i64 id] w fun e w' => e = .returned (.int .i64 id) ∧ w = w' := by
  go_enter Tryz.func55, Tryz.ntmps55
  go_wp2
  go_loop [1, 5, 6] (fun a i _ => a = .int .i64 id ∧ i = .int .i64 0) (fun _ _ _ => 0)
  case atStart => exact ⟨rfl, rfl⟩
  case round =>
    obtain ⟨rfl, rfl⟩ := hrel
    go_wp2
    go_ret
    exact ⟨rfl, rfl⟩
theorem changesHold0 (p : Nat) (id : Int) (w : World) (h : w.cell? ⟨p, 38, none⟩ = some (.slice none 0 0)) : Calls Tryz.prog 72 #[.pointer (some ⟨p, 0, none⟩), .int .i64 id] w fun e w' => e = .returned (.tuple #[.int .i64 id, .bool true]) ∧ w = w' := by
  go_enter Tryz.func72, Tryz.ntmps72
  go_wp2
  go_loop [1, 6, 7, 8, 9] (fun a b i _ _ => a = .int .i64 id ∧ b = .bool true ∧ i = .int .i64 0) (fun _ _ _ _ _ => 0)
  case atStart => exact ⟨rfl, rfl, rfl⟩
  case round =>
    obtain ⟨rfl, rfl, rfl⟩ := hrel
    go_wp2
    go_ret2
    exact ⟨rfl, rfl⟩
theorem changesGrow0 (t : Int) (p : Nat) (id : Int) (w : World) (h : w.cell? ⟨p, 38, none⟩ = some (.slice none 0 0)) : Calls Tryz.prog 89 #[.pointer (some ⟨p, 0, none⟩), .int .i64 id, .int .i64 t] w fun e w' => e = .returned (.int .i64 id) ∧ w = w' := by
  go_enter Tryz.func89, Tryz.ntmps89
  go_wp2
  go_loop [1, 7, 8] (fun a i _ => a = .int .i64 id ∧ i = .int .i64 0) (fun _ _ _ => 0)
  case atStart => exact ⟨rfl, rfl⟩
  case round =>
    obtain ⟨rfl, rfl⟩ := hrel
    go_wp2
    go_ret
    exact ⟨rfl, rfl⟩
theorem faultsWrite0 (p : Nat) (id : Int) (w : World) (h : w.cell? ⟨p, 41, none⟩ = some (.slice none 0 0)) : Calls Tryz.prog 56 #[.pointer (some ⟨p, 0, none⟩), .int .i64 id] w fun e w' => e = .returned (.int .i64 id) ∧ w = w' := by
  go_enter Tryz.func56, Tryz.ntmps56
  go_wp2
  go_loop [1, 5, 6] (fun a i _ => a = .int .i64 id ∧ i = .int .i64 0) (fun _ _ _ => 0)
  case atStart => exact ⟨rfl, rfl⟩
  case round =>
    obtain ⟨rfl, rfl⟩ := hrel
    go_wp2
    go_ret
    exact ⟨rfl, rfl⟩
theorem faultsHold0 (p : Nat) (id : Int) (w : World) (h : w.cell? ⟨p, 41, none⟩ = some (.slice none 0 0)) : Calls Tryz.prog 73 #[.pointer (some ⟨p, 0, none⟩), .int .i64 id] w fun e w' => e = .returned (.tuple #[.int .i64 id, .bool true]) ∧ w = w' := by
  go_enter Tryz.func73, Tryz.ntmps73
  go_wp2
  go_loop [1, 6, 7, 8, 9] (fun a b i _ _ => a = .int .i64 id ∧ b = .bool true ∧ i = .int .i64 0) (fun _ _ _ _ _ => 0)
  case atStart => exact ⟨rfl, rfl, rfl⟩
  case round =>
    obtain ⟨rfl, rfl, rfl⟩ := hrel
    go_wp2
    go_ret2
    exact ⟨rfl, rfl⟩
theorem faultsGrow0 (t : Int) (p : Nat) (id : Int) (w : World) (h : w.cell? ⟨p, 41, none⟩ = some (.slice none 0 0)) : Calls Tryz.prog 90 #[.pointer (some ⟨p, 0, none⟩), .int .i64 id, .int .i64 t] w fun e w' => e = .returned (.int .i64 id) ∧ w = w' := by
  go_enter Tryz.func90, Tryz.ntmps90
  go_wp2
  go_loop [1, 7, 8] (fun a i _ => a = .int .i64 id ∧ i = .int .i64 0) (fun _ _ _ => 0)
  case atStart => exact ⟨rfl, rfl⟩
  case round =>
    obtain ⟨rfl, rfl⟩ := hrel
    go_wp2
    go_ret
    exact ⟨rfl, rfl⟩
theorem flightsWrite0 (p : Nat) (id : Int) (w : World) (h : w.cell? ⟨p, 44, none⟩ = some (.slice none 0 0)) : Calls Tryz.prog 57 #[.pointer (some ⟨p, 0, none⟩), .int .i64 id] w fun e w' => e = .returned (.int .i64 id) ∧ w = w' := by
  go_enter Tryz.func57, Tryz.ntmps57
  go_wp2
  go_loop [1, 5, 6] (fun a i _ => a = .int .i64 id ∧ i = .int .i64 0) (fun _ _ _ => 0)
  case atStart => exact ⟨rfl, rfl⟩
  case round =>
    obtain ⟨rfl, rfl⟩ := hrel
    go_wp2
    go_ret
    exact ⟨rfl, rfl⟩
theorem flightsHold0 (p : Nat) (id : Int) (w : World) (h : w.cell? ⟨p, 44, none⟩ = some (.slice none 0 0)) : Calls Tryz.prog 74 #[.pointer (some ⟨p, 0, none⟩), .int .i64 id] w fun e w' => e = .returned (.tuple #[.int .i64 id, .bool true]) ∧ w = w' := by
  go_enter Tryz.func74, Tryz.ntmps74
  go_wp2
  go_loop [1, 6, 7, 8, 9] (fun a b i _ _ => a = .int .i64 id ∧ b = .bool true ∧ i = .int .i64 0) (fun _ _ _ _ _ => 0)
  case atStart => exact ⟨rfl, rfl, rfl⟩
  case round =>
    obtain ⟨rfl, rfl, rfl⟩ := hrel
    go_wp2
    go_ret2
    exact ⟨rfl, rfl⟩
theorem flightsGrow0 (t : Int) (p : Nat) (id : Int) (w : World) (h : w.cell? ⟨p, 44, none⟩ = some (.slice none 0 0)) : Calls Tryz.prog 91 #[.pointer (some ⟨p, 0, none⟩), .int .i64 id, .int .i64 t] w fun e w' => e = .returned (.int .i64 id) ∧ w = w' := by
  go_enter Tryz.func91, Tryz.ntmps91
  go_wp2
  go_loop [1, 7, 8] (fun a i _ => a = .int .i64 id ∧ i = .int .i64 0) (fun _ _ _ => 0)
  case atStart => exact ⟨rfl, rfl⟩
  case round =>
    obtain ⟨rfl, rfl⟩ := hrel
    go_wp2
    go_ret
    exact ⟨rfl, rfl⟩
theorem opsWrite0 (p : Nat) (id : Int) (w : World) (h : w.cell? ⟨p, 47, none⟩ = some (.slice none 0 0)) : Calls Tryz.prog 58 #[.pointer (some ⟨p, 0, none⟩), .int .i64 id] w fun e w' => e = .returned (.int .i64 id) ∧ w = w' := by
  go_enter Tryz.func58, Tryz.ntmps58
  go_wp2
  go_loop [1, 5, 6] (fun a i _ => a = .int .i64 id ∧ i = .int .i64 0) (fun _ _ _ => 0)
  case atStart => exact ⟨rfl, rfl⟩
  case round =>
    obtain ⟨rfl, rfl⟩ := hrel
    go_wp2
    go_ret
    exact ⟨rfl, rfl⟩
theorem opsHold0 (p : Nat) (id : Int) (w : World) (h : w.cell? ⟨p, 47, none⟩ = some (.slice none 0 0)) : Calls Tryz.prog 75 #[.pointer (some ⟨p, 0, none⟩), .int .i64 id] w fun e w' => e = .returned (.tuple #[.int .i64 id, .bool true]) ∧ w = w' := by
  go_enter Tryz.func75, Tryz.ntmps75
  go_wp2
  go_loop [1, 6, 7, 8, 9] (fun a b i _ _ => a = .int .i64 id ∧ b = .bool true ∧ i = .int .i64 0) (fun _ _ _ _ _ => 0)
  case atStart => exact ⟨rfl, rfl, rfl⟩
  case round =>
    obtain ⟨rfl, rfl, rfl⟩ := hrel
    go_wp2
    go_ret2
    exact ⟨rfl, rfl⟩
theorem opsGrow0 (t : Int) (p : Nat) (id : Int) (w : World) (h : w.cell? ⟨p, 47, none⟩ = some (.slice none 0 0)) : Calls Tryz.prog 92 #[.pointer (some ⟨p, 0, none⟩), .int .i64 id, .int .i64 t] w fun e w' => e = .returned (.int .i64 id) ∧ w = w' := by
  go_enter Tryz.func92, Tryz.ntmps92
  go_wp2
  go_loop [1, 7, 8] (fun a i _ => a = .int .i64 id ∧ i = .int .i64 0) (fun _ _ _ => 0)
  case atStart => exact ⟨rfl, rfl⟩
  case round =>
    obtain ⟨rfl, rfl⟩ := hrel
    go_wp2
    go_ret
    exact ⟨rfl, rfl⟩
theorem eventsWrite0 (p : Nat) (id : Int) (w : World) (h : w.cell? ⟨p, 50, none⟩ = some (.slice none 0 0)) : Calls Tryz.prog 59 #[.pointer (some ⟨p, 0, none⟩), .int .i64 id] w fun e w' => e = .returned (.int .i64 id) ∧ w = w' := by
  go_enter Tryz.func59, Tryz.ntmps59
  go_wp2
  go_loop [1, 5, 6] (fun a i _ => a = .int .i64 id ∧ i = .int .i64 0) (fun _ _ _ => 0)
  case atStart => exact ⟨rfl, rfl⟩
  case round =>
    obtain ⟨rfl, rfl⟩ := hrel
    go_wp2
    go_ret
    exact ⟨rfl, rfl⟩
theorem eventsHold0 (p : Nat) (id : Int) (w : World) (h : w.cell? ⟨p, 50, none⟩ = some (.slice none 0 0)) : Calls Tryz.prog 76 #[.pointer (some ⟨p, 0, none⟩), .int .i64 id] w fun e w' => e = .returned (.tuple #[.int .i64 id, .bool true]) ∧ w = w' := by
  go_enter Tryz.func76, Tryz.ntmps76
  go_wp2
  go_loop [1, 6, 7, 8, 9] (fun a b i _ _ => a = .int .i64 id ∧ b = .bool true ∧ i = .int .i64 0) (fun _ _ _ _ _ => 0)
  case atStart => exact ⟨rfl, rfl, rfl⟩
  case round =>
    obtain ⟨rfl, rfl, rfl⟩ := hrel
    go_wp2
    go_ret2
    exact ⟨rfl, rfl⟩
theorem eventsGrow0 (t : Int) (p : Nat) (id : Int) (w : World) (h : w.cell? ⟨p, 50, none⟩ = some (.slice none 0 0)) : Calls Tryz.prog 93 #[.pointer (some ⟨p, 0, none⟩), .int .i64 id, .int .i64 t] w fun e w' => e = .returned (.int .i64 id) ∧ w = w' := by
  go_enter Tryz.func93, Tryz.ntmps93
  go_wp2
  go_loop [1, 7, 8] (fun a i _ => a = .int .i64 id ∧ i = .int .i64 0) (fun _ _ _ => 0)
  case atStart => exact ⟨rfl, rfl⟩
  case round =>
    obtain ⟨rfl, rfl⟩ := hrel
    go_wp2
    go_ret
    exact ⟨rfl, rfl⟩
end Go.Proofs.YtjlhnepjpjlppaaGreatDoor
