/- The program's device: New. -/
import Derived.Test.YtkndlpihhfjcpaaDkArm
namespace Go.Proofs.Ytkndlpihhfjcpaa
open Go.RowKit
theorem Bag.appendStep1 {P : Program} {w W : World} {l : List It} {ops : Array Oper} {o : Oper} {a : Act} {K : Act → World → Prop} {Q : Exit → Act → World → Prop} {G : Prop} (hgd : o.guard = none) (s x : Operand) (t : TypeId)
    (ho : o.op = .call { callee := .builtin .append, args := #[s, x], argTypes := #[t, t] })
    (e : TypeId) (i : TypeInfo) (z : Value) (bytes : Nat) (ht : P.underlying t = some (.slice e)) (hi : P.info? e = some i) (hz : i.zero = some z) (hsize : i.size = 1) (hby : i.bytes = bytes) (hzs : z.cells.size = 1)
    (k : Nat) (v : Value) (n : Nat) (xs : List Value) (hB : Bag w W l) (hk : l[k]? = some (.lst e 1 v n xs)) (hs : a.eval s = v)
    (b off : Nat) (hx : a.eval x = .slice (some ⟨b, off, none⟩) 1 1) (u : Value) (hu : W.cell? ⟨b, off, none⟩ = some u) (h1 : u.oneCell' = true) (hn : n + 1 ≤ maxLen) (hbytes : (n + 1) * bytes ≤ 140737488355328)
    (h : ∀ g cap W', Bag w W' (l.set k (.lst e 1 (.slice (some ⟨g, 0, none⟩) (n + 1) cap) (n + 1) (xs ++ [u]))) → W.heap.size ≤ W'.heap.size → K (a.put o.dst (.slice (some ⟨g, 0, none⟩) (n + 1) cap)) W') :
    if Region.wanted o (yielded ops a.tmps) = true then Oper.wp P o a W K Q else G := by
  have hown := hB.lst k hk
  refine step_append_lies (P := P) W hgd s x t ho 0 e i z 1 bytes ht hi hz hsize hby hzs (by decide) v n xs hs hown ⟨b, off, none⟩ 1 1 [u] hx rfl ?_ ?_ (by decide) hn hbytes (Nat.zero_le _) _ rfl ?_
  · intro j y hj
    match j with
    | 0 => simp at hj; subst hj; rw [← hu]; rfl
    | j + 1 => simp at hj
  · intro y hy
    simp at hy; subst hy; exact h1
  · intro g cap W' h2 h3 h4 h5
    refine h g cap W' (hB.turn k hk (S := fun b => v.ownBlock = some b) ⟨h3.os, h3.tape, h3.output, h3.size, fun b hb hne => h3.block b hb fun e => hne e.symm⟩ ?_ (It.lst_of h2) ?_) h3.size
    · intro b hb
      rcases hown.2 with ⟨rfl, _⟩ | ⟨g', cap', cur, rfl, _⟩
      · cases hb
      · simp only [Value.ownBlock, Option.some.injEq] at hb
        subst hb
        exact ⟨_, _, rfl⟩
    · rintro b ⟨n', cap', hb⟩
      simp only [Value.slice.injEq, Option.some.injEq, Addr.mk.injEq] at hb
      obtain ⟨⟨rfl, _⟩, _⟩ := hb
      rcases h4 with h4 | h4
      · left
        rcases hown.2 with ⟨rfl, _⟩ | ⟨g', cap', cur, rfl, _⟩
        · cases h4
        · simp only [Value.ownBlock, Option.some.injEq] at h4
          subst h4
          exact ⟨_, _, rfl⟩
      · right; omega
theorem info_sl : (Try.prog.info? 37).map (fun i => (i.zero, i.size, i.bytes)) = some (some (.slice none 0 0), 1, 24) := by kernel_rfl
def calmV : Value := .func (.func 37) #[] #[]
/-- A device while it is made: j sectors of zeros. -/
def newL (lv : Value) (bs : List Nat) : Lay := ⟨lv, .slice none 0 0, bs, [], none⟩
theorem dkBorn {w W : World} {p : Nat} {rest : List It} (h : Bag w W (.box p #[.slice none 0 0, .slice none 0 0, .bool false, .int .i64 0, .int .i64 0, calmV] 83 :: rest)) : Bag w W (dkl p (newL (.slice none 0 0) []) (Dk.new 0) rest) := by
  have h0 := h.cons (x := .grp [.fact (([] : List (Int × Int)) = [])]) (Below.refl _ W) ⟨by simp [It.fact], by simp⟩ (by rintro k ⟨x, hx, hk⟩; simp only [List.mem_singleton] at hx; subst hx; exact hk.elim)
  have h1 := (((h0.rowsNil 5 512).nil 85 2).rowsNil 5 512).nil 37 1
  have h2 := h1.perm (List.perm_middle (l₁ := ([It.lst 37 1 (.slice none 0 0) 0 [], It.rows 5 512 [] [], It.lst 85 2 (.slice none 0 0) 0 [], It.rows 5 512 [] [], It.grp [It.fact (([] : List (Int × Int)) = [])]] : List It)) (l₂ := rest))
  exact h2
theorem dkZeroRow {w W W' : World} {p : Nat} {lv : Value} {bs : List Nat} {j : Nat} {rest : List It} {gg : Nat} (h : Bag w W (dkl p (newL lv bs) (Dk.new j) rest)) (hb : Below W.heap.size W W') (hO : Own W' gg 512 5 Dk.zs) (hg : W.heap.size ≤ gg) :
    Bag w W' ((Dk.new j).box (newL lv bs) p :: .lst 37 1 lv j (bs.map slv) :: .rows 5 512 (bs ++ [gg]) (List.replicate (j + 1) Dk.zs) :: .lst 85 2 (.slice none 0 0) 0 [] :: .rows 5 512 [] [] :: .grp [.fact (([] : List (Int × Int)) = [])] :: rest) := by
  have h1 := h.rowsPush 2 rfl hb hO hg
  have e : (Dk.new j).ls ++ [Dk.zs] = List.replicate (j + 1) Dk.zs := by rw [List.replicate_succ']; rfl
  rw [e] at h1
  have e2 : (Dk.new j).ls.length = j := List.length_replicate ..
  unfold dkl at h1
  rw [e2] at h1
  exact h1
theorem dkNewOn {w W : World} {p : Nat} {lv : Value} {bs : List Nat} {j : Nat} {rest : List It} {g gg cap : Nat} (h : Bag w W ((Dk.new j).box (newL lv bs) p :: .lst 37 1 (.slice (some ⟨g, 0, none⟩) (j + 1) cap) (j + 1) (bs.map slv ++ [slv gg]) :: .rows 5 512 (bs ++ [gg]) (List.replicate (j + 1) Dk.zs) :: .lst 85 2 (.slice none 0 0) 0 [] :: .rows 5 512 [] [] :: .grp [.fact (([] : List (Int × Int)) = [])] :: rest)) :
    Bag w (W.setCell ⟨p, 0, none⟩ (.slice (some ⟨g, 0, none⟩) (j + 1) cap)) (dkl p (newL (.slice (some ⟨g, 0, none⟩) (j + 1) cap) (bs ++ [gg])) (Dk.new (j + 1)) rest) := by
  have h1 := h.put 0 rfl 0 (.slice (some ⟨g, 0, none⟩) (j + 1) cap)
  have e2 : (Dk.new (j + 1)).ls.length = j + 1 := List.length_replicate ..
  unfold dkl
  rw [e2]
  unfold newL
  simp only [List.map_append, List.map_cons, List.map_nil]
  exact h1
def NewR (w : World) (n : Nat) (e : Ending) (W' : World) : Prop := ∃ p L, e = .returned (.pointer (some ⟨p, 0, none⟩)) ∧ Bag w W' [It.disk p L (Dk.new n)]
theorem dkNewNo (n : Int) (w : World) (h : n < 32 ∨ 8192 < n) : Calls Try.prog 11 #[.int .i64 n] w fun e w' => e = .returned (.pointer none) ∧ w = w' := by
  have h' : n < 32 ∨ (¬ n < 32 ∧ 8192 < n) := by omega
  clear h
  rcases h' with h | ⟨h, h2⟩
  all_goals
    go_enter Try.func11, Try.ntmps11
    go_wp2_with fail
    go_ret
    exact ⟨rfl, rfl⟩
set_option maxRecDepth 100000 in
set_option maxHeartbeats 2000000 in
theorem dkNew (n : Nat) (w : World) (h0 : 32 ≤ n) (h1 : n ≤ 8192) : Calls Try.prog 11 #[.int .i64 (n : Nat)] w (NewR w n) := by
  obtain ⟨is, his, hsz0, hsz1, hsz2⟩ := info_parts info_sl
  have HB := Lib.hid (dkBorn ((Bag.start w).alloc #[.slice none 0 0, .slice none 0 0, .bool false, .int .i64 0, .int .i64 0, calmV] 83))
  go_enter Try.func11, Try.ntmps11
  go_wp2_with fail
  generalize hU : w.alloc (.cells #[.slice none 0 0, .slice none 0 0, .bool false, .int .i64 0, .int .i64 0, calmV] 83 (0, 0)) = U at HB
  generalize hp : w.heap.size = p at HB ⊢
  go_loopw [13] (fun t wr => ∃ j : Nat, j ≤ n ∧ t = .int .i64 j ∧ ∃ lv bs, Bag w wr (dkl p (newL lv bs) (Dk.new j) [])) (fun t _ => n - (intOf t).toNat)
  case atStart => exact ⟨0, Nat.zero_le _, rfl, _, _, (by first | (rw [← hU] at HB; exact HB.out))⟩
  case round =>
    obtain ⟨j, hj, rfl, lv, bs, hB⟩ := hrel
    clear HB
    have HB := Lib.hid hB
    clear hB hU hp
    by_cases hlt : j < n
    · obtain ⟨q0, _, _, _, _, _, qf⟩ := dkCells HB.out
      obtain ⟨aq, cp, hlv, hcp⟩ := HB.out.lstForm 1 rfl
      rw [show (Dk.new j).ls.length = j from List.length_replicate ..] at hlv hcp
      obtain rfl : lv = .slice aq j cp := hlv
      unfold newL at q0
      simp only at q0
      have hpl : p < wr.heap.size := World.block_lt_of_cell? wr _ q0
      go_wp2_with fail
      go_region_law (first
          | (go_simp; go_at_call 38; refine (dkZero 0 _).mono ?_; rintro e W3 ⟨gg, rfl, hgg, hOO, hbb⟩; have HB3 := Lib.hid (dkZeroRow HB.out.drew hbb hOO hgg); obtain ⟨q0', _, _, _, _, _, qf'⟩ := dkCells (HB.out.drew.call hbb); unfold newL at q0'; simp only at q0'; have hpl' : p < W3.heap.size := World.block_lt_of_cell? W3 _ q0'; clear hOO hbb hgg; unfold slv)
          | (refine Bag.appendStep1 rfl _ _ 80 rfl 37 is _ 24 Try.underlying80 his hsz0 hsz1 hsz2 rfl 1 _ j _ (HB3.out.call (fresh1 W3 (.cells #[slv gg] 37))) rfl rfl W3.heap.size 0 rfl _ (cell_of_row _ _ 0 _ _ _ (heap_alloc_new W3 (.cells #[slv gg] 37))) rfl (by unfold maxLen; omega) (by omega) ?_; intro gx cx W4 hB4 hsz; have HB4 := Lib.hid (dkNewOn hB4); have z1 : W4.cell? ⟨p, 0, none⟩ = some (.slice aq j cp) := (cell_of_row W4 p 0 _ _ _ (hB4.box 0 rfl)); have zf : W4.frozen? ⟨p, 0, none⟩ = false := frozen_of_row W4 p 0 _ _ (hB4.box 0 rfl); clear hB4))
      all_goals
        go_wp2_with fail
        go_roundw
        case rel => exact ⟨j + 1, by omega, by go_num, _, _, HB4.out⟩
        case measure => simp [intOf]; omega
    · obtain rfl : j = n := by omega
      go_wp2_with fail
      go_ret
      exact ⟨p, _, rfl, disk_iff.2 HB.out⟩
end Go.Proofs.Ytkndlpihhfjcpaa
