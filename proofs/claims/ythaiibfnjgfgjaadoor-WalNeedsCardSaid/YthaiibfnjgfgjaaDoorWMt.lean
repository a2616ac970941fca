/- The log, as numbers and lists alone: what its calls do to a device, what they answer. No program in sight. What stands on a device that a log has written: every way a crash may leave it tells one account. No program in sight. Open over a device that a log has written tells its account. No program in sight. What the calls of a log leave on a device, whatever is refused and wherever the power fails: the account ahead of the call, or the one behind it. No program in sight. A device, the newest log over it, the accounts that an Open may tell: as numbers and lists alone. No program in sight. -/
import Derived.Test.YthaiibfnjgfgjaaDoorDkMem
import Derived.Test.YthaiibfnjgfgjaaDoorWSec
namespace Go.Proofs.YthaiibfnjgfgjaaDoor
namespace Wl
abbrev By := List (BitVec 8)
def tagS : By := [67#8, 86#8, 83#8, 49#8]
def tagD : By := [67#8, 86#8, 68#8, 49#8]
def tagC : By := [67#8, 86#8, 67#8, 49#8]
def tagO : By := [67#8, 86#8, 79#8, 49#8]
/-- How many pieces a string has. -/
def pcN (n : Nat) : Nat := (n + 479) / 480
/-- How many places a transaction needs. -/
def needN (n : Nat) : Nat := if n < 1 ∨ 4800 < n then 0 else if n ≤ 480 then 1 else pcN n + 1
def roomN (n : Nat) : Nat := (n - 2) / 2
def startN (e room : Nat) : Nat := 2 + e % 2 * room
def pieceB (b : By) (i : Nat) : By := (b.drop (i * 480)).take 480
def num (x n : Nat) : By := be (BitVec.ofNat 64 x) n
def sumB (b : By) : By := be ((Crc.sum b).setWidth 64) 4
def superB (n : Nat) (s : By) : By := num n 4 ++ (num (pcN s.length) 4 ++ (num s.length 4 ++ sumB s))
def endB (tx : By) : By := num (pcN tx.length) 2 ++ (num tx.length 4 ++ sumB tx)
def secAt (tag : By) (e q p : Nat) (b : By) : Sec := ⟨tag, (e : Int), (q : Int), (p : Int), b⟩
/-- The greatest seq. -/
def mq : Nat := 4611686018427387904
/-- An open log. -/
structure Lg where
  room : Nat
  claim : Nat
  epoch : Nat
  seq : Nat
  place : Nat
  safe : Bool
  ended : Bool
structure Lg.Ok (l : Lg) : Prop where
  room : l.room ≤ 4095
  e0 : 1 ≤ l.epoch
  e1 : l.epoch ≤ mq
  q0 : 1 ≤ l.seq
  q1 : l.seq ≤ mq + 1
  place : l.place ≤ l.room
  claim : l.claim ≤ 1000000000000
def Lg.over (l : Lg) (D : Dk) : Bool := l.ended || !(D.claim == l.claim)
def Lg.ref (l : Lg) (e : Int) : Lg := { l with ended := l.ended || !(e == 0) }
def wrE (D : Dk) (a : Nat) (S : Sec) : Int := D.writeE (a : Int) S.bytes
def wrD (D : Dk) (a : Nat) (S : Sec) : Dk := D.writeD (a : Int) S.bytes
/-- The pieces from the i-th on, k of them, then a flush. -/
def piecesP (room seq epoch place : Nat) (b : By) : Nat → Nat → Dk → Dk × Int
  | 0, _, D => (D.flushD, D.opE)
  | k + 1, i, D =>
    if wrE D (startN epoch room + place + i) (secAt tagD epoch seq (place + i) (pieceB b i)) = 0 then
      piecesP room seq epoch place b k (i + 1) (wrD D (startN epoch room + place + i) (secAt tagD epoch seq (place + i) (pieceB b i)))
    else (wrD D (startN epoch room + place + i) (secAt tagD epoch seq (place + i) (pieceB b i)), wrE D (startN epoch room + place + i) (secAt tagD epoch seq (place + i) (pieceB b i)))
/-- One sector, then a flush. -/
def lastP (D : Dk) (a : Nat) (S : Sec) : Dk × Int := if wrE D a S = 0 then ((wrD D a S).flushD, (wrD D a S).opE) else (wrD D a S, wrE D a S)
/-- What a call of a log answers: the device, the log, the error. -/
structure Ans where
  D : Dk
  l : Lg
  e : Int
/-- The sector that ends a transaction: where, which. -/
def lastS (l : Lg) (tx : By) : Sec := if 1 < needN tx.length then secAt tagC l.epoch l.seq (l.place + needN tx.length - 1) (endB tx) else secAt tagO l.epoch l.seq (l.place + needN tx.length - 1) tx
def lastA (l : Lg) (tx : By) : Nat := startN l.epoch l.room + (l.place + needN tx.length - 1)
def aheadP (D : Dk) (l : Lg) (tx : By) : Dk × Int := if 1 < needN tx.length then piecesP l.room l.seq l.epoch l.place tx (pcN tx.length) 0 D else (D, 0)
def appendE (D : Dk) (l : Lg) (n : Nat) : Int := if l.over D || !l.safe then 115 else if needN n = 0 then 111 else if mq < l.seq then 113 else if l.room < l.place + needN n then 112 else 0
def appendP (D : Dk) (l : Lg) (tx : By) : Ans :=
  if appendE D l tx.length = 0 then
    if (aheadP D l tx).2 = 0 then
      if (lastP (aheadP D l tx).1 (lastA l tx) (lastS l tx)).2 = 0 then ⟨(lastP (aheadP D l tx).1 (lastA l tx) (lastS l tx)).1, { l with place := l.place + needN tx.length, seq := l.seq + 1 }, 0⟩
      else ⟨(lastP (aheadP D l tx).1 (lastA l tx) (lastS l tx)).1, l.ref (lastP (aheadP D l tx).1 (lastA l tx) (lastS l tx)).2, (lastP (aheadP D l tx).1 (lastA l tx) (lastS l tx)).2⟩
    else ⟨(aheadP D l tx).1, l.ref (aheadP D l tx).2, (aheadP D l tx).2⟩
  else ⟨D, l, appendE D l tx.length⟩
def checkE (D : Dk) (l : Lg) (n : Nat) : Int := if l.over D || !l.safe then 115 else if mq < l.seq ∨ mq ≤ l.epoch then 113 else if l.room < pcN n + 11 then 112 else 0
def superS (l : Lg) (n : Nat) (s : By) : Sec := secAt tagS (l.epoch + 1) l.seq ((l.epoch + 1) % 2) (superB n s)
def statesP (D : Dk) (l : Lg) (s : By) : Dk × Int := piecesP l.room l.seq (l.epoch + 1) 0 s (pcN s.length) 0 D
def checkP (D : Dk) (l : Lg) (s : By) : Ans :=
  if checkE D l s.length = 0 then
    if (statesP D l s).2 = 0 then
      if (lastP (statesP D l s).1 ((l.epoch + 1) % 2) (superS l D.ls.length s)).2 = 0 then ⟨(lastP (statesP D l s).1 ((l.epoch + 1) % 2) (superS l D.ls.length s)).1, { l with epoch := l.epoch + 1, place := pcN s.length }, 0⟩
      else ⟨(lastP (statesP D l s).1 ((l.epoch + 1) % 2) (superS l D.ls.length s)).1, l.ref (lastP (statesP D l s).1 ((l.epoch + 1) % 2) (superS l D.ls.length s)).2, (lastP (statesP D l s).1 ((l.epoch + 1) % 2) (superS l D.ls.length s)).2⟩
    else ⟨(statesP D l s).1, l.ref (statesP D l s).2, (statesP D l s).2⟩
  else ⟨D, l, checkE D l s.length⟩
def safeP (D : Dk) (l : Lg) : Ans := if l.over D then ⟨D, l, 115⟩ else if l.safe then ⟨D, l, 0⟩ else ⟨D.flushD, { l.ref D.opE with safe := D.opE == 0 }, D.opE⟩
/-- A superblock that counts. -/
structure Sup where
  epoch : Nat
  seq : Nat
  pieces : Nat
  len : Nat
  sum : BitVec 32
def n4 (b : By) (k : Nat) : BitVec 64 := val ((b.drop k).take 4)
def countsO (b : By) (i n room : Nat) : Bool := (getS b).isSome && ((getV b).tag == tagS && ((getV b).place == (i : Int) && ((getV b).epoch % 2 == (i : Int) && ((getV b).body.length == 16 && ((n4 (getV b).body 0).toNat == n && ((n4 (getV b).body 4).toNat == pcN (n4 (getV b).body 8).toNat && decide ((n4 (getV b).body 4).toNat + 11 ≤ room)))))))
def countsS (b : By) : Sup := ⟨(getV b).epoch.toNat, (getV b).seq.toNat, (n4 (getV b).body 4).toNat, (n4 (getV b).body 8).toNat, (n4 (getV b).body 12).setWidth 32⟩
def orderL (a b : Option Sup) : List Sup := match a, b with
  | none, none => []
  | some x, none => [x]
  | none, some y => [y]
  | some x, some y => if x.epoch < y.epoch then [y, x] else [x, y]
def countsP (b : By) (i n room : Nat) : Option Sup := if countsO b i n room then some (countsS b) else none
structure Fnd where
  D : Dk
  e : Int
  l : List Sup
def foundP (D : Dk) (n room : Nat) : Fnd :=
  if D.readE 0 = 0 then
    if (D.readD 0).readE 1 = 0 then ⟨(D.readD 0).readD 1, 0, orderL (countsP (D.readB 0) 0 n room) (countsP ((D.readD 0).readB 1) 1 n room)⟩
    else ⟨(D.readD 0).readD 1, (D.readD 0).readE 1, []⟩
  else ⟨D.readD 0, D.readE 0, []⟩
structure Sta where
  D : Dk
  e : Int
  ok : Bool
  b : By
def pieceOk (b : By) (s : Sup) (i out : Nat) : Bool := rightO b tagD (s.epoch : Int) (s.seq : Int) (i : Int) && ((rightB b tagD (s.epoch : Int) (s.seq : Int) (i : Int)).length == min 480 (s.len - out))
def stateP (room : Nat) (s : Sup) : Nat → Nat → By → Dk → Sta
  | 0, _, out, D => ⟨D, 0, Crc.sum out == s.sum, out⟩
  | k + 1, i, out, D =>
    if D.readE ((startN s.epoch room + i : Nat) : Int) = 0 then
      if pieceOk (D.readB ((startN s.epoch room + i : Nat) : Int)) s i out.length then stateP room s k (i + 1) (out ++ rightB (D.readB ((startN s.epoch room + i : Nat) : Int)) tagD (s.epoch : Int) (s.seq : Int) (i : Int)) (D.readD ((startN s.epoch room + i : Nat) : Int))
      else ⟨D.readD ((startN s.epoch room + i : Nat) : Int), 0, false, []⟩
    else ⟨D.readD ((startN s.epoch room + i : Nat) : Int), D.readE ((startN s.epoch room + i : Nat) : Int), false, []⟩
structure Wk where
  D : Dk
  e : Int
  place : Nat
  seq : Nat
  txs : List By
def isOne (b : By) (e q p n : Nat) : Bool := rightO b tagO (e : Int) (q : Int) (p : Int) && (n == 0 && decide (0 < (rightB b tagO (e : Int) (q : Int) (p : Int)).length))
def isPart (b : By) (e q p n : Nat) (full : Bool) : Bool := rightO b tagD (e : Int) (q : Int) (p : Int) && (decide (n < 10) && (full && (decide (0 < (rightB b tagD (e : Int) (q : Int) (p : Int)).length) && (decide (0 < n) || (rightB b tagD (e : Int) (q : Int) (p : Int)).length == 480))))
def isEnd (b : By) (e q p n : Nat) (tx : By) : Bool := rightO b tagC (e : Int) (q : Int) (p : Int) && (decide (1 < n) && (rightB b tagC (e : Int) (q : Int) (p : Int) == endB tx))
/-- The walk over the transactions: k places are left, p is the next one; so far tx of n pieces, the last one full. -/
def walkP (room e : Nat) : Nat → Nat → Nat → Nat → By → Nat → Bool → List By → Dk → Wk
  | 0, _, place, q, _, _, _, txs, D => ⟨D, 0, place, q, txs⟩
  | k + 1, p, place, q, tx, n, full, txs, D =>
    if mq < q then ⟨D, 0, place, q, txs⟩
    else if D.readE ((startN e room + p : Nat) : Int) = 0 then
      if isOne (D.readB ((startN e room + p : Nat) : Int)) e q p n then walkP room e k (p + 1) (p + 1) (q + 1) [] 0 true (txs ++ [rightB (D.readB ((startN e room + p : Nat) : Int)) tagO (e : Int) (q : Int) (p : Int)]) (D.readD ((startN e room + p : Nat) : Int))
      else if isPart (D.readB ((startN e room + p : Nat) : Int)) e q p n full then walkP room e k (p + 1) place q (tx ++ rightB (D.readB ((startN e room + p : Nat) : Int)) tagD (e : Int) (q : Int) (p : Int)) (n + 1) ((rightB (D.readB ((startN e room + p : Nat) : Int)) tagD (e : Int) (q : Int) (p : Int)).length == 480) txs (D.readD ((startN e room + p : Nat) : Int))
      else if isEnd (D.readB ((startN e room + p : Nat) : Int)) e q p n tx then walkP room e k (p + 1) (p + 1) (q + 1) [] 0 true (txs ++ [tx]) (D.readD ((startN e room + p : Nat) : Int))
      else ⟨D.readD ((startN e room + p : Nat) : Int), 0, place, q, txs⟩
    else ⟨D.readD ((startN e room + p : Nat) : Int), D.readE ((startN e room + p : Nat) : Int), place, q, txs⟩
structure Res where
  D : Dk
  e : Int
  l : Lg
  s : By
  txs : List By
def Lg.nil : Lg := ⟨0, 0, 0, 0, 0, false, false⟩
def Sta.wk (t : Sta) (room : Nat) (s : Sup) : Wk := walkP room s.epoch (room - s.pieces) s.pieces s.pieces s.seq [] 0 true [] t.D
def Wk.res (w : Wk) (room claim epoch : Nat) (s : By) : Res := if w.e = 0 then ⟨w.D, 0, ⟨room, claim, epoch, w.seq, w.place, false, false⟩, s, w.txs⟩ else ⟨w.D, w.e, .nil, [], []⟩
def openFrom (room claim : Nat) : List Sup → Dk → Res
  | [], D => ⟨D, 110, .nil, [], []⟩
  | s :: r, D =>
    if (stateP room s s.pieces 0 [] D).e = 0 then
      if (stateP room s s.pieces 0 [] D).ok then ((stateP room s s.pieces 0 [] D).wk room s).res room claim s.epoch (stateP room s s.pieces 0 [] D).b
      else openFrom room claim r (stateP room s s.pieces 0 [] D).D
    else ⟨(stateP room s s.pieces 0 [] D).D, (stateP room s s.pieces 0 [] D).e, .nil, [], []⟩
def openP (D : Dk) : Res :=
  if (foundP D.claimD D.ls.length (roomN D.ls.length)).e = 0 then openFrom (roomN D.ls.length) (D.claim + 1) (foundP D.claimD D.ls.length (roomN D.ls.length)).l (foundP D.claimD D.ls.length (roomN D.ls.length)).D
  else ⟨(foundP D.claimD D.ls.length (roomN D.ls.length)).D, (foundP D.claimD D.ls.length (roomN D.ls.length)).e, .nil, [], []⟩
end Wl
end Go.Proofs.YthaiibfnjgfgjaaDoor
namespace Go.Proofs.YthaiibfnjgfgjaaDoor
namespace Wl
/-- A way in which a crash may leave what lasts. -/
def Out (ps : List (Nat × By)) (ls X : List By) : Prop := ∃ ks : List Bool, X = Dk.layK ps ks ls
theorem layK_nil (ks : List Bool) (ls : List By) : Dk.layK [] ks ls = ls := by simp [Dk.layK]
theorem layK_none (ps : List (Nat × By)) (ls : List By) : Dk.layK ps [] ls = ls := by cases ps <;> simp [Dk.layK]
theorem layK_all' (ps : List (Nat × By)) : ∀ ls, Dk.layK ps (List.replicate ps.length true) ls = Dk.lay ps ls := by
  induction ps with
  | nil => intro ls; simp [Dk.layK, Dk.lay]
  | cons p ps ih => intro ls; simp [Dk.layK, Dk.lay, List.replicate_succ, ih]
theorem out_nil {ls X : List By} (h : Out [] ls X) : X = ls := by
  obtain ⟨ks, h⟩ := h
  rw [h]
  exact layK_nil _ _
theorem out_all (ps : List (Nat × By)) (ls : List By) : Out ps ls (Dk.lay ps ls) := ⟨_, (layK_all' ps ls).symm⟩
theorem out_none (ps : List (Nat × By)) (ls : List By) : Out ps ls ls := ⟨[], (layK_none _ _).symm⟩
theorem out_len {ps : List (Nat × By)} {ls X : List By} (h : Out ps ls X) : X.length = ls.length := by
  obtain ⟨ks, rfl⟩ := h
  exact Dk.layK_len _ _ _
theorem layK_snoc (a : Nat) (b : By) (ps : List (Nat × By)) : ∀ (ks : List Bool) (ls : List By), ∃ k2, Dk.layK (ps ++ [(a, b)]) ks ls = Dk.layK ps k2 ls ∨ Dk.layK (ps ++ [(a, b)]) ks ls = (Dk.layK ps k2 ls).set a b := by
  induction ps with
  | nil =>
    intro ks ls
    refine ⟨[], ?_⟩
    match ks with
    | [] => left; simp [Dk.layK]
    | false :: ks => left; simp [Dk.layK]
    | true :: ks => right; simp [Dk.layK]
  | cons p ps ih =>
    intro ks ls
    match ks with
    | [] => exact ⟨[], Or.inl (by simp [Dk.layK])⟩
    | k :: ks =>
      obtain ⟨k2, h⟩ := ih ks (if k then ls.set p.1 p.2 else ls)
      exact ⟨k :: k2, by simpa [Dk.layK] using h⟩
theorem out_snoc {ps : List (Nat × By)} {ls X : List By} {a : Nat} {b : By} (h : Out (ps ++ [(a, b)]) ls X) : ∃ Y, Out ps ls Y ∧ (X = Y ∨ X = Y.set a b) := by
  obtain ⟨ks, rfl⟩ := h
  obtain ⟨k2, h⟩ := layK_snoc a b ps ks ls
  exact ⟨_, ⟨k2, rfl⟩, h⟩
theorem lay_snoc (a : Nat) (b : By) (ps : List (Nat × By)) : ∀ ls : List By, Dk.lay (ps ++ [(a, b)]) ls = (Dk.lay ps ls).set a b := by
  induction ps with
  | nil => intro ls; simp [Dk.lay]
  | cons p ps ih => intro ls; simp [Dk.lay, ih]
/-- What a read tells is what stands there when all is laid down. -/
theorem latest_lay (ls : List By) (i : Nat) (hi : i < ls.length) (ps : List (Nat × By)) : Dk.latest ls ps i = (Dk.lay ps ls).getD i [] := by
  have key : ∀ l : List (Nat × By), Dk.latest ls l.reverse i = (Dk.lay l.reverse ls).getD i [] := by
    intro l
    induction l with
    | nil => simp [Dk.latest, Dk.lay]
    | cons p l ih =>
      rw [List.reverse_cons]
      obtain ⟨a, b⟩ := p
      rw [lay_snoc]
      have h1 : Dk.latest ls (l.reverse ++ [(a, b)]) i = if a = i then b else Dk.latest ls l.reverse i := by
        unfold Dk.latest
        rw [List.reverse_append, List.reverse_singleton, List.singleton_append, List.find?_cons]
        by_cases h : a = i
        · simp [h]
        · have : (a == i) = false := by rw [beq_eq_false_iff_ne]; exact h
          simp [this, h]
      rw [h1]
      by_cases h : a = i
      · subst h
        rw [if_pos rfl, List.getD, List.getElem?_set_self (by rw [Dk.lay_len]; exact hi)]
        rfl
      · rw [if_neg h, ih, List.getD, List.getD, List.getElem?_set_ne h]
  have := key ps.reverse
  simpa using this
/-- Which sector stands there. -/
def cont (X : List By) (i : Nat) : Option Sec := getS (X.getD i [])
theorem cont_set {X : List By} {i : Nat} (b : By) (j : Nat) (hi : i < X.length) : cont (X.set i b) j = if i = j then getS b else cont X j := by
  unfold cont
  by_cases h : i = j
  · subst h
    rw [if_pos rfl, List.getD, List.getElem?_set_self hi]
    rfl
  · rw [if_neg h, List.getD, List.getElem?_set_ne h]
    rfl
theorem start_lt {n e p : Nat} (hn : 32 ≤ n) (hp : p < roomN n) : startN e (roomN n) + p < n := by
  unfold startN roomN at *
  rcases Nat.mod_two_eq_zero_or_one e with h | h <;> rw [h] <;> omega
theorem start_two (e r p : Nat) : 2 ≤ startN e r + p := by unfold startN; omega
theorem start_inj {e e' r p p' : Nat} (hp : p < r) (hp' : p' < r) (h : startN e r + p = startN e' r + p') : e % 2 = e' % 2 ∧ p = p' := by
  unfold startN at h
  rcases Nat.mod_two_eq_zero_or_one e with h1 | h1 <;> rcases Nat.mod_two_eq_zero_or_one e' with h2 | h2 <;> rw [h1, h2] at h <;> omega
/-- The sectors of a transaction stand from place p on. -/
def TxAt (X : List By) (r e q p : Nat) (tx : By) : Prop :=
  if tx.length ≤ 480 then cont X (startN e r + p) = some (secAt tagO e q p tx)
  else (∀ i, i < pcN tx.length → cont X (startN e r + (p + i)) = some (secAt tagD e q (p + i) (pieceB tx i))) ∧ cont X (startN e r + (p + pcN tx.length)) = some (secAt tagC e q (p + pcN tx.length) (endB tx))
def TxsAt (X : List By) (r e : Nat) : Nat → Nat → List By → Prop
  | _, _, [] => True
  | q, p, tx :: l => (1 ≤ tx.length ∧ tx.length ≤ 4800) ∧ TxAt X r e q p tx ∧ TxsAt X r e (q + 1) (p + needN tx.length) l
def txsLen : List By → Nat
  | [] => 0
  | tx :: l => needN tx.length + txsLen l
theorem txsLen_app (l : List By) (tx : By) : txsLen (l ++ [tx]) = txsLen l + needN tx.length := by
  induction l with
  | nil => simp [txsLen]
  | cons x l ih => simp [txsLen, ih]; omega
theorem need_one {n : Nat} (h : 1 ≤ n) (h2 : n ≤ 480) : needN n = 1 := by unfold needN; rw [if_neg (by omega), if_pos h2]
theorem need_more {n : Nat} (h : 480 < n) (h2 : n ≤ 4800) : needN n = pcN n + 1 := by unfold needN; rw [if_neg (by omega), if_neg (by omega)]
theorem need_pos {n : Nat} (h : 1 ≤ n) (h2 : n ≤ 4800) : 1 ≤ needN n := by unfold needN; rw [if_neg (by omega)]; split <;> omega
/-- The device tells an account: the string s, the transactions txs, in the epoch e, the first one's seq q0; nothing else can be taken for a part of it. -/
structure Tel (X : List By) (e q0 : Nat) (s : By) (txs : List By) : Prop where
  n32 : 32 ≤ X.length
  n8 : X.length ≤ 8192
  e0 : 1 ≤ e
  eM : e ≤ mq
  q1 : 1 ≤ q0
  qM : q0 + txs.length ≤ mq + 1
  sup : cont X (e % 2) = some (secAt tagS e q0 (e % 2) (superB X.length s))
  fit : pcN s.length + 11 ≤ roomN X.length
  pcs : ∀ i, i < pcN s.length → cont X (startN e (roomN X.length) + i) = some (secAt tagD e q0 i (pieceB s i))
  lay : TxsAt X (roomN X.length) e q0 (pcN s.length) txs
  room : pcN s.length + txsLen txs ≤ roomN X.length
  clean : ∀ i S, cont X i = some S → S.tag ≠ tagD → S.epoch ≤ (e : Int) ∧ (S.tag ≠ tagS → S.epoch = (e : Int) → S.seq < ((q0 + txs.length : Nat) : Int))
/-- Where the next transaction goes. -/
def nextP (s : By) (txs : List By) : Nat := pcN s.length + txsLen txs
theorem txAt_set {X : List By} {r e q p a : Nat} {b tx : By} (ha : a < X.length) (h1 : 1 ≤ tx.length) (h2 : tx.length ≤ 4800) (hne : ∀ i, i < needN tx.length → a ≠ startN e r + (p + i)) (h : TxAt X r e q p tx) : TxAt (X.set a b) r e q p tx := by
  unfold TxAt at *
  by_cases h4 : tx.length ≤ 480
  · rw [if_pos h4] at h ⊢
    rw [cont_set b _ ha, if_neg (by have := hne 0 (need_pos h1 h2); simpa using this)]
    exact h
  · rw [if_neg h4] at h ⊢
    have hn := need_more (Nat.lt_of_not_le h4) h2
    refine ⟨fun i hi => ?_, ?_⟩
    · rw [cont_set b _ ha, if_neg (hne i (by omega))]
      exact h.1 i hi
    · rw [cont_set b _ ha, if_neg (hne _ (by omega))]
      exact h.2
theorem txsAt_set {X : List By} {r e a : Nat} {b : By} (ha : a < X.length) (txs : List By) : ∀ (q p : Nat), (∀ i, i < txsLen txs → a ≠ startN e r + (p + i)) → TxsAt X r e q p txs → TxsAt (X.set a b) r e q p txs := by
  induction txs with
  | nil => intro q p _ _; trivial
  | cons tx l ih =>
    rintro q p hne ⟨⟨h1, h2⟩, h3, h4⟩
    refine ⟨⟨h1, h2⟩, txAt_set ha h1 h2 (fun i hi => hne i (by simp only [txsLen]; omega)) h3, ih _ _ (fun i hi => ?_) h4⟩
    have := hne (needN tx.length + i) (by simp only [txsLen]; omega)
    rwa [show p + (needN tx.length + i) = p + needN tx.length + i by omega] at this
theorem txsAt_app {X : List By} {r e : Nat} {tx : By} (txs : List By) : ∀ (q p : Nat), TxsAt X r e q p txs → (1 ≤ tx.length ∧ tx.length ≤ 4800) → TxAt X r e (q + txs.length) (p + txsLen txs) tx → TxsAt X r e q p (txs ++ [tx]) := by
  induction txs with
  | nil => intro q p _ h1 h2; exact ⟨h1, by simpa [txsLen] using h2, trivial⟩
  | cons t l ih =>
    rintro q p ⟨h1, h2, h3⟩ h4 h5
    refine ⟨h1, h2, ih _ _ h3 h4 ?_⟩
    simp only [txsLen, List.length_cons] at h5
    rwa [show q + 1 + l.length = q + (l.length + 1) by omega, show p + needN t.length + txsLen l = p + (needN t.length + txsLen l) by omega]
/-- A piece at a free place changes nothing of the account. -/
theorem Tel.piece {X : List By} {e q0 : Nat} {s : By} {txs : List By} (h : Tel X e q0 s txs) {a : Nat} {S : Sec} (hS : S.may = true) (ht : S.tag = tagD) (ha : a < X.length) (h2 : 2 ≤ a) (hne : ∀ i, i < nextP s txs → a ≠ startN e (roomN X.length) + i) : Tel (X.set a S.bytes) e q0 s txs := by
  have hl : (X.set a S.bytes).length = X.length := List.length_set ..
  have hm : e % 2 < 2 := Nat.mod_lt _ (by decide)
  refine ⟨by rw [hl]; exact h.n32, by rw [hl]; exact h.n8, h.e0, h.eM, h.q1, h.qM, ?_, by rw [hl]; exact h.fit, ?_, ?_, by rw [hl]; exact h.room, ?_⟩
  · rw [cont_set _ _ ha, if_neg (by omega), hl]
    exact h.sup
  · intro i hi
    rw [hl, cont_set _ _ ha, if_neg (hne i (by unfold nextP; omega))]
    exact h.pcs i hi
  · rw [hl]
    exact txsAt_set ha txs _ _ (fun i hi => hne _ (by unfold nextP; omega)) h.lay
  · intro i T hT hd
    rw [cont_set _ _ ha] at hT
    by_cases hi : a = i
    · rw [if_pos hi, getS_bytes hS] at hT
      cases hT
      exact absurd ht hd
    · rw [if_neg hi] at hT
      exact h.clean i T hT hd
theorem tags_ne : tagO ≠ tagD ∧ tagC ≠ tagD ∧ tagS ≠ tagD ∧ tagO ≠ tagS ∧ tagC ≠ tagS := by decide
/-- The sector by which a transaction counts. -/
theorem Tel.more {X : List By} {e q0 : Nat} {s tx : By} {txs : List By} (h : Tel X e q0 s txs) {a : Nat} {S : Sec} (hS : S.may = true) (h1 : 1 ≤ tx.length) (h4 : tx.length ≤ 4800)
    (hq : q0 + txs.length ≤ mq) (hroom : nextP s txs + needN tx.length ≤ roomN X.length) (ha : a = startN e (roomN X.length) + (nextP s txs + needN tx.length - 1))
    (hSe : S = if tx.length ≤ 480 then secAt tagO e (q0 + txs.length) (nextP s txs) tx else secAt tagC e (q0 + txs.length) (nextP s txs + pcN tx.length) (endB tx))
    (hp : 480 < tx.length → ∀ i, i < pcN tx.length → cont X (startN e (roomN X.length) + (nextP s txs + i)) = some (secAt tagD e (q0 + txs.length) (nextP s txs + i) (pieceB tx i))) :
    Tel (X.set a S.bytes) e q0 s (txs ++ [tx]) := by
  have hl : (X.set a S.bytes).length = X.length := List.length_set ..
  have hm : e % 2 < 2 := Nat.mod_lt _ (by decide)
  have hnp := need_pos h1 h4
  have hal : a < X.length := by rw [ha]; exact start_lt h.n32 (by omega)
  have ha2 : 2 ≤ a := by rw [ha]; exact start_two _ _ _
  have hne : ∀ i, i < nextP s txs + needN tx.length - 1 → a ≠ startN e (roomN X.length) + i := by
    intro i hi he
    rw [ha] at he
    omega
  have htag : S.tag ≠ tagS ∧ S.epoch = (e : Int) ∧ S.seq = ((q0 + txs.length : Nat) : Int) := by
    rw [hSe]
    split
    · exact ⟨tags_ne.2.2.2.1, rfl, rfl⟩
    · exact ⟨tags_ne.2.2.2.2, rfl, rfl⟩
  refine ⟨by rw [hl]; exact h.n32, by rw [hl]; exact h.n8, h.e0, h.eM, h.q1, by simp; omega, ?_, by rw [hl]; exact h.fit, ?_, ?_, by rw [hl, txsLen_app]; unfold nextP at hroom; omega, ?_⟩
  · rw [cont_set _ _ hal, if_neg (by omega), hl]
    exact h.sup
  · intro i hi
    rw [hl, cont_set _ _ hal, if_neg (hne i (by unfold nextP; omega))]
    exact h.pcs i hi
  · rw [hl]
    refine txsAt_app txs _ _ (txsAt_set hal txs _ _ (fun i hi => hne _ (by unfold nextP; omega)) h.lay) ⟨h1, h4⟩ ?_
    show TxAt (X.set a S.bytes) (roomN X.length) e (q0 + txs.length) (nextP s txs) tx
    unfold TxAt
    by_cases h480 : tx.length ≤ 480
    · rw [if_pos h480] at hSe ⊢
      have hn1 := need_one h1 h480
      have : startN e (roomN X.length) + nextP s txs = a := by rw [ha, hn1]; omega
      rw [this, cont_set _ _ hal, if_pos rfl, getS_bytes hS, hSe]
    · rw [if_neg h480] at hSe ⊢
      have hn1 := need_more (Nat.lt_of_not_le h480) h4
      refine ⟨fun i hi => ?_, ?_⟩
      · rw [cont_set _ _ hal, if_neg (hne _ (by omega))]
        exact hp (by omega) i hi
      · have : startN e (roomN X.length) + (nextP s txs + pcN tx.length) = a := by rw [ha, hn1]; omega
        rw [this, cont_set _ _ hal, if_pos rfl, getS_bytes hS, hSe]
  · intro i T hT hd
    rw [cont_set _ _ hal] at hT
    by_cases hi : a = i
    · rw [if_pos hi, getS_bytes hS] at hT
      cases hT
      refine ⟨by omega, fun _ _ => ?_⟩
      rw [htag.2.2]
      simp
      omega
    · rw [if_neg hi] at hT
      obtain ⟨c1, c2⟩ := h.clean i T hT hd
      refine ⟨c1, fun c3 c4 => ?_⟩
      have := c2 c3 c4
      simp
      omega
/-- The superblock by which a checkpoint counts. -/
theorem Tel.check {X : List By} {e q0 : Nat} {s t : By} {txs : List By} (h : Tel X e q0 s txs) (hS : (secAt tagS (e + 1) (q0 + txs.length) ((e + 1) % 2) (superB X.length t)).may = true) (he : e < mq) (hfit : pcN t.length + 11 ≤ roomN X.length)
    (hp : ∀ i, i < pcN t.length → cont X (startN (e + 1) (roomN X.length) + i) = some (secAt tagD (e + 1) (q0 + txs.length) i (pieceB t i))) :
    Tel (X.set ((e + 1) % 2) (secAt tagS (e + 1) (q0 + txs.length) ((e + 1) % 2) (superB X.length t)).bytes) (e + 1) (q0 + txs.length) t [] := by
  generalize hSg : secAt tagS (e + 1) (q0 + txs.length) ((e + 1) % 2) (superB X.length t) = S at hS ⊢
  have hl : (X.set ((e + 1) % 2) S.bytes).length = X.length := List.length_set ..
  have hm : (e + 1) % 2 < 2 := Nat.mod_lt _ (by decide)
  have hal : (e + 1) % 2 < X.length := by have := h.n32; omega
  have h1 := h.q1
  have h2 := h.qM
  refine ⟨by rw [hl]; exact h.n32, by rw [hl]; exact h.n8, by omega, by omega, by omega, by simpa using h.qM, ?_, by rw [hl]; exact hfit, ?_, trivial, by rw [hl]; simp [txsLen]; omega, ?_⟩
  · rw [cont_set _ _ hal, if_pos rfl, hl, getS_bytes hS, hSg]
  · intro i hi
    rw [hl, cont_set _ _ hal, if_neg (by have := start_two (e + 1) (roomN X.length) i; omega)]
    exact hp i hi
  · intro i T hT hd
    rw [cont_set _ _ hal] at hT
    by_cases hi : (e + 1) % 2 = i
    · rw [if_pos hi, getS_bytes hS] at hT
      cases hT
      rw [← hSg]
      exact ⟨by simp [secAt], fun c => absurd rfl c⟩
    · rw [if_neg hi] at hT
      obtain ⟨c1, _⟩ := h.clean i T hT hd
      exact ⟨by simp; omega, fun _ c4 => by simp at c4; omega⟩
end Wl
end Go.Proofs.YthaiibfnjgfgjaaDoor
namespace Go.Proofs.YthaiibfnjgfgjaaDoor
namespace Wl
theorem opE_io (D : Dk) : D.opE = 0 ∨ D.opE = 103 ∨ D.opE = 104 := by
  unfold Dk.opE
  split
  · exact Or.inr (Or.inr rfl)
  · split
    · exact Or.inr (Or.inr rfl)
    · split
      · exact Or.inr (Or.inl rfl)
      · exact Or.inl rfl
/-- Nothing is armed, the power is on. -/
def Quiet (D : Dk) : Prop := D.off = false ∧ D.fs = []
theorem Quiet.opE {D : Dk} (h : Quiet D) : D.opE = 0 := by
  unfold Dk.opE
  rw [h.1, h.2]
  simp [Dk.kindAt]
theorem Quiet.opD {D : Dk} (h : Quiet D) : Quiet D.opD := by
  refine ⟨?_, by rw [Dk.opD_fs]; exact h.2⟩
  unfold Dk.opD
  rw [h.1, h.2]
  simp [Dk.kindAt]
/-- The same device but for what was counted: no more than k operations. -/
structure Sm (k : Nat) (D D' : Dk) : Prop where
  ls : D'.ls = D.ls
  ps : D'.ps = D.ps
  claim : D'.claim = D.claim
  fs : D'.fs = D.fs
  done : D'.done ≤ D.done + k
  quiet : Quiet D → Quiet D'
theorem Sm.refl (D : Dk) : Sm 0 D D := ⟨rfl, rfl, rfl, rfl, Nat.le_refl _, id⟩
theorem Sm.trans {j k : Nat} {A B C : Dk} (h : Sm j A B) (g : Sm k B C) : Sm (j + k) A C :=
  ⟨g.ls.trans h.ls, g.ps.trans h.ps, g.claim.trans h.claim, g.fs.trans h.fs, by have := h.done; have := g.done; omega, fun q => g.quiet (h.quiet q)⟩
theorem Sm.mono {j k : Nat} {A B : Dk} (h : Sm j A B) (hk : j ≤ k) : Sm k A B := ⟨h.ls, h.ps, h.claim, h.fs, by have := h.done; omega, h.quiet⟩
theorem sm_op (D : Dk) : Sm 1 D D.opD := ⟨D.opD_ls, D.opD_ps, D.opD_claim, D.opD_fs, D.opD_done, Quiet.opD⟩
theorem sm_read (D : Dk) (i : Int) : Sm 1 D (D.readD i) := by
  unfold Dk.readD
  split
  · exact sm_op D
  · exact (Sm.refl D).mono (by omega)
/-- What reads tell. -/
def view (D : Dk) : List By := Dk.lay D.ps D.ls
theorem Sm.view {k : Nat} {D D' : Dk} (h : Sm k D D') : view D' = view D := by unfold Wl.view; rw [h.ls, h.ps]
theorem view_len (D : Dk) : (view D).length = D.ls.length := Dk.lay_len _ _
theorem inn_nat {D : Dk} {a : Nat} (h : a < D.ls.length) : D.inn (a : Int) = true := by unfold Dk.inn; simpa using h
theorem read_io {D : Dk} {a : Nat} (h : a < D.ls.length) : D.readE (a : Int) = 0 ∨ D.readE (a : Int) = 103 ∨ D.readE (a : Int) = 104 := by
  unfold Dk.readE
  rw [inn_nat h]
  exact opE_io D
theorem read_quiet {D : Dk} {a : Nat} (h : a < D.ls.length) (q : Quiet D) : D.readE (a : Int) = 0 := by
  unfold Dk.readE
  rw [inn_nat h]
  exact q.opE
theorem read_view {D : Dk} {a : Nat} (h : a < D.ls.length) (he : D.readE (a : Int) = 0) : D.readB (a : Int) = (view D).getD a [] := by
  unfold Dk.readB
  rw [if_pos he]
  exact latest_lay _ _ h _
theorem right_at {b : By} {S : Sec} (h : getS b = some S) (t : By) (ep sq pl : Int) : rightO b t ep sq pl = (S.tag == t && (S.epoch == ep && (S.seq == sq && S.place == pl))) := by
  simp [rightO, h, (getV_some h).1]
theorem right_sec {b : By} {t u : By} {e q p : Nat} {m : By} (h : getS b = some (secAt t e q p m)) : rightO b u (e : Int) (q : Int) (p : Int) = (t == u) := by
  rw [right_at h]
  simp [secAt]
theorem rightB_sec {b : By} {t : By} {e q p : Nat} {m : By} (h : getS b = some (secAt t e q p m)) : rightB b t (e : Int) (q : Int) (p : Int) = m := by
  rw [right_yes (by rw [right_sec h]; simp), (getV_some h).1]
  rfl
theorem right_of {b t : By} {ep sq pl : Int} (h : rightO b t ep sq pl = true) : ∃ S, getS b = some S ∧ S.tag = t ∧ S.epoch = ep ∧ S.seq = sq ∧ S.place = pl := by
  cases hg : getS b with
  | none => rw [rightO_none hg] at h; cases h
  | some S =>
    rw [right_at hg] at h
    simp only [Bool.and_eq_true, beq_iff_eq] at h
    exact ⟨S, rfl, h.1, h.2.1, h.2.2.1, h.2.2.2⟩
theorem val_num {x n : Nat} (hn : n ≤ 8) (hx : x < 2 ^ (8 * n)) : (val (num x n)).toNat = x := by
  unfold num
  rw [val_be, BitVec.toNat_and, BitVec.toNat_ofNat, BitVec.toNat_ofNat]
  have hp : 2 ^ (8 * n) ≤ 2 ^ 64 := Nat.pow_le_pow_right (by decide) (by omega)
  have hp0 : 0 < 2 ^ (8 * n) := Nat.pow_pos (by decide)
  rw [Nat.mod_eq_of_lt (show x < 2 ^ 64 by omega), Nat.mod_eq_of_lt (show 2 ^ (8 * n) - 1 < 2 ^ 64 by omega), Nat.and_two_pow_sub_one_eq_mod, Nat.mod_eq_of_lt hx]
theorem val_sum (b : By) : (val (sumB b)).setWidth 32 = Crc.sum b := by
  apply BitVec.eq_of_toNat_eq
  unfold sumB
  have := (Crc.sum b).isLt
  rw [val_be, BitVec.toNat_setWidth, BitVec.toNat_and, BitVec.toNat_ofNat, BitVec.toNat_setWidth]
  rw [show (2 ^ (8 * 4) - 1) % 2 ^ 64 = 2 ^ 32 - 1 by decide, Nat.and_two_pow_sub_one_eq_mod]
  omega
theorem num_len (x n : Nat) : (num x n).length = n := be_length _ _
theorem sumB_len (b : By) : (sumB b).length = 4 := be_length _ _
theorem super_len (n : Nat) (s : By) : (superB n s).length = 16 := by simp [superB, num_len, sumB_len]
theorem super_n4 (n : Nat) (s : By) : n4 (superB n s) 0 = val (num n 4) ∧ n4 (superB n s) 4 = val (num (pcN s.length) 4) ∧ n4 (superB n s) 8 = val (num s.length 4) ∧ n4 (superB n s) 12 = val (sumB s) := by
  have d4 : (superB n s).drop 4 = num (pcN s.length) 4 ++ (num s.length 4 ++ sumB s) := drop_app _ _ 4 0 (num_len _ _)
  have d8 : (superB n s).drop 8 = num s.length 4 ++ sumB s := by
    have e : (superB n s).drop 8 = ((superB n s).drop 4).drop 4 := by rw [List.drop_drop]
    rw [e, d4]; exact drop_app _ _ 4 0 (num_len _ _)
  have d12 : (superB n s).drop 12 = sumB s := by
    have e : (superB n s).drop 12 = ((superB n s).drop 8).drop 4 := by rw [List.drop_drop]
    rw [e, d8]; exact drop_app _ _ 4 0 (num_len _ _)
  unfold n4
  refine ⟨?_, ?_, ?_, ?_⟩
  · rw [List.drop_zero]; exact congrArg val (List.take_left' (num_len _ _))
  · rw [d4]; exact congrArg val (List.take_left' (num_len _ _))
  · rw [d8]; exact congrArg val (List.take_left' (num_len _ _))
  · rw [d12]; exact congrArg val (List.take_of_length_le (by rw [sumB_len]; omega))
/-- The superblock of an account, as it is read. -/
def supOf (e q0 : Nat) (s : By) : Sup := ⟨e, q0, pcN s.length, s.length, Crc.sum s⟩
theorem pcN_le {n : Nat} : n ≤ pcN n * 480 := by unfold pcN; omega
theorem pcN_lt {n i : Nat} (h : i < pcN n) : i * 480 < n := by unfold pcN at h; omega
theorem countsP_sup {b : By} {e q0 n : Nat} {s : By} (h : getS b = some (secAt tagS e q0 (e % 2) (superB n s))) (hn : n ≤ 8192) (hf : pcN s.length + 11 ≤ roomN n) : countsP b (e % 2) n (roomN n) = some (supOf e q0 s) := by
  have hv := (getV_some h).1
  obtain ⟨c0, c4, c8, c12⟩ := super_n4 n s
  have hr : roomN n ≤ 4095 := by unfold roomN; omega
  have hs : s.length < 2 ^ (8 * 4) := by have := @pcN_le s.length; omega
  have e0 : (n4 (superB n s) 0).toNat = n := by rw [c0]; exact val_num (by decide) (by omega)
  have e4 : (n4 (superB n s) 4).toNat = pcN s.length := by rw [c4]; exact val_num (by decide) (by omega)
  have e8 : (n4 (superB n s) 8).toNat = s.length := by rw [c8]; exact val_num (by decide) hs
  have e12 : (n4 (superB n s) 12).setWidth 32 = Crc.sum s := by rw [c12]; exact val_sum s
  have ho : countsO b (e % 2) n (roomN n) = true := by
    unfold countsO
    rw [hv, h]
    simp only [secAt, Option.isSome_some, Bool.true_and, Bool.and_eq_true, beq_iff_eq, decide_eq_true_eq, super_len, e0, e4, e8, true_and]
    exact ⟨by omega, hf⟩
  unfold countsP
  rw [if_pos ho]
  unfold countsS supOf
  rw [hv]
  simp only [secAt, e4, e8, e12, Int.toNat_natCast]
theorem countsP_other {X : List By} {e q0 : Nat} {s : By} {txs : List By} (h : Tel X e q0 s txs) {i n room : Nat} (hi : i < 2) (hne : i ≠ e % 2) {c : Sup} (hc : countsP (X.getD i []) i n room = some c) : c.epoch < e := by
  unfold countsP at hc
  split at hc
  · rename_i ho
    cases hc
    unfold countsO at ho
    simp only [Bool.and_eq_true, beq_iff_eq] at ho
    obtain ⟨h1, h2, _, h4, _⟩ := ho
    cases hg : getS (X.getD i []) with
    | none => rw [hg] at h1; cases h1
    | some S =>
      have hv := (getV_some hg).1
      rw [hv] at h2 h4
      obtain ⟨c1, _⟩ := h.clean i S hg (by rw [h2]; exact tags_ne.2.2.1)
      have c2 := (may_iff.1 (getS_spec hg).1).2.1.1
      unfold countsS
      rw [hv]
      show S.epoch.toNat < e
      omega
  · cases hc
theorem foundP_sm (D : Dk) (n room : Nat) (hn : 2 ≤ D.ls.length) : Sm 2 D (foundP D n room).D ∧ ((foundP D n room).e = 0 ∨ (foundP D n room).e = 103 ∨ (foundP D n room).e = 104) ∧ (Quiet D → (foundP D n room).e = 0) := by
  have r0 := read_io (D := D) (a := 0) (by omega)
  have r1 := read_io (D := D.readD (0 : Nat)) (a := 1) (by rw [(sm_read D _).ls]; omega)
  unfold foundP
  split
  · split
    · exact ⟨(sm_read D 0).trans (sm_read _ 1), Or.inl rfl, fun _ => rfl⟩
    · exact ⟨(sm_read D 0).trans (sm_read _ 1), r1, fun q => read_quiet (a := 1) (by rw [(sm_read D 0).ls]; omega) ((sm_read D 0).quiet q)⟩
  · exact ⟨(sm_read D 0).mono (by omega), r0, fun q => read_quiet (a := 0) (by omega) q⟩
theorem foundP_tel {D : Dk} {e q0 : Nat} {s : By} {txs : List By} (h : Tel (view D) e q0 s txs) (he : (foundP D D.ls.length (roomN D.ls.length)).e = 0) : ∃ r, (foundP D D.ls.length (roomN D.ls.length)).l = supOf e q0 s :: r := by
  have hn := h.n32
  have hn8 := h.n8
  have hsup := h.sup
  have hfit := h.fit
  rw [view_len] at hn hn8 hsup hfit
  unfold foundP at he ⊢
  by_cases h0 : D.readE 0 = 0
  · rw [if_pos h0] at he ⊢
    by_cases h1 : (D.readD 0).readE 1 = 0
    · rw [if_pos h1]
      have b0 : D.readB 0 = (view D).getD 0 [] := read_view (a := 0) (by omega) h0
      have b1 : (D.readD 0).readB 1 = (view D).getD 1 [] := by
        have h2 := read_view (D := D.readD 0) (a := 1) (by rw [(sm_read D 0).ls]; omega) h1
        rw [(sm_read D 0).view] at h2
        exact h2
      simp only [b0, b1]
      have hs := countsP_sup hsup hn8 hfit
      rcases Nat.mod_two_eq_zero_or_one e with hm | hm
      · rw [hm] at hs
        rw [hs]
        cases hc : countsP ((view D).getD 1 []) 1 D.ls.length (roomN D.ls.length) with
        | none => exact ⟨[], rfl⟩
        | some c =>
          have := countsP_other h (i := 1) (by omega) (by omega) hc
          refine ⟨[c], ?_⟩
          simp only [orderL]
          rw [if_neg (by simp only [supOf]; omega)]
      · rw [hm] at hs
        rw [hs]
        cases hc : countsP ((view D).getD 0 []) 0 D.ls.length (roomN D.ls.length) with
        | none => exact ⟨[], rfl⟩
        | some c =>
          have := countsP_other h (i := 0) (by omega) (by omega) hc
          refine ⟨[c], ?_⟩
          simp only [orderL]
          rw [if_pos (by simp only [supOf]; omega)]
    · rw [if_neg h1] at he
      exact absurd he h1
  · rw [if_neg h0] at he
    exact absurd he h0
theorem stateP_sm {n : Nat} (hn : 32 ≤ n) (s : Sup) : ∀ (k i : Nat) (out : By) (D : Dk), D.ls.length = n → i + k ≤ roomN n → Sm k D (stateP (roomN n) s k i out D).D ∧ ((stateP (roomN n) s k i out D).e = 0 ∨ (stateP (roomN n) s k i out D).e = 103 ∨ (stateP (roomN n) s k i out D).e = 104) ∧ (Quiet D → (stateP (roomN n) s k i out D).e = 0) := by
  intro k
  induction k with
  | zero => intro i out D _ _; exact ⟨Sm.refl D, Or.inl rfl, fun _ => rfl⟩
  | succ k ih =>
    intro i out D hl hk
    have ha : startN s.epoch (roomN n) + i < D.ls.length := by rw [hl]; exact start_lt hn (by omega)
    have hs := sm_read D ((startN s.epoch (roomN n) + i : Nat) : Int)
    have r0 := read_io ha
    unfold stateP
    split
    · split
      · obtain ⟨h1, h2, h3⟩ := ih (i + 1) _ _ (by rw [hs.ls]; exact hl) (by omega)
        exact ⟨(hs.trans h1).mono (by omega), h2, fun q => h3 (hs.quiet q)⟩
      · exact ⟨hs.mono (by omega), Or.inl rfl, fun _ => rfl⟩
    · exact ⟨hs.mono (by omega), r0, fun q => read_quiet ha q⟩
theorem take_piece (s : By) (i : Nat) : s.take (i * 480) ++ pieceB s i = s.take ((i + 1) * 480) := by
  rw [show (i + 1) * 480 = i * 480 + 480 by omega, List.take_add]
  rfl
theorem piece_len (s : By) (i : Nat) : (pieceB s i).length = min 480 (s.length - i * 480) := by simp [pieceB]
theorem stateP_tel {D0 : Dk} {e q0 : Nat} {s : By} {txs : List By} (h : Tel (view D0) e q0 s txs) : ∀ (k i : Nat) (D : Dk), view D = view D0 → i + k = pcN s.length → (stateP (roomN D.ls.length) (supOf e q0 s) k i (s.take (i * 480)) D).e = 0 →
    (stateP (roomN D.ls.length) (supOf e q0 s) k i (s.take (i * 480)) D).ok = true ∧ (stateP (roomN D.ls.length) (supOf e q0 s) k i (s.take (i * 480)) D).b = s := by
  intro k
  induction k with
  | zero =>
    intro i D _ hi _
    have : s.take (i * 480) = s := List.take_of_length_le (by rw [show i = pcN s.length by omega]; exact pcN_le)
    refine ⟨?_, this⟩
    show (Crc.sum (s.take (i * 480)) == Crc.sum s) = true
    rw [this]
    exact beq_self_eq_true _
  | succ k ih =>
    intro i D hv hi he
    have hl : D.ls.length = (view D0).length := by rw [← hv, view_len]
    have hn := h.n32
    have hip : i < pcN s.length := by omega
    have hil := pcN_lt hip
    have hfit := h.fit
    rw [← hl] at hn hfit
    have ha : startN e (roomN D.ls.length) + i < D.ls.length := start_lt hn (by omega)
    have hp := h.pcs i hip
    rw [← hl, ← hv] at hp
    have hs := sm_read D ((startN e (roomN D.ls.length) + i : Nat) : Int)
    by_cases hr : D.readE ((startN e (roomN D.ls.length) + i : Nat) : Int) = 0
    · have hb := read_view ha hr
      have hg : getS (D.readB ((startN e (roomN D.ls.length) + i : Nat) : Int)) = some (secAt tagD e q0 i (pieceB s i)) := by rw [hb]; exact hp
      have hok : pieceOk (D.readB ((startN e (roomN D.ls.length) + i : Nat) : Int)) (supOf e q0 s) i (s.take (i * 480)).length = true := by
        unfold pieceOk
        simp only [supOf, right_sec hg, rightB_sec hg, piece_len, List.length_take, Bool.and_eq_true, beq_iff_eq, true_and]
        rw [Nat.min_eq_left (show i * 480 ≤ s.length by omega)]
      have hstep : stateP (roomN D.ls.length) (supOf e q0 s) (k + 1) i (s.take (i * 480)) D = stateP (roomN D.ls.length) (supOf e q0 s) k (i + 1) (s.take ((i + 1) * 480)) (D.readD ((startN e (roomN D.ls.length) + i : Nat) : Int)) := by
        conv => lhs; unfold stateP
        rw [if_pos (show D.readE ((startN (supOf e q0 s).epoch (roomN D.ls.length) + i : Nat) : Int) = 0 from hr)]
        rw [if_pos (show pieceOk (D.readB ((startN (supOf e q0 s).epoch (roomN D.ls.length) + i : Nat) : Int)) (supOf e q0 s) i (s.take (i * 480)).length = true from hok)]
        have hB : rightB (D.readB ((startN (supOf e q0 s).epoch (roomN D.ls.length) + i : Nat) : Int)) tagD ((supOf e q0 s).epoch : Int) ((supOf e q0 s).seq : Int) (i : Int) = pieceB s i := rightB_sec hg
        rw [hB, take_piece]
        rfl
      rw [hstep] at he ⊢
      have := ih (i + 1) (D.readD ((startN e (roomN D.ls.length) + i : Nat) : Int)) (by rw [hs.view, hv]) (by omega)
      rw [hs.ls] at this
      exact this he
    · refine absurd ?_ hr
      have hstep : stateP (roomN D.ls.length) (supOf e q0 s) (k + 1) i (s.take (i * 480)) D = ⟨D.readD ((startN e (roomN D.ls.length) + i : Nat) : Int), D.readE ((startN e (roomN D.ls.length) + i : Nat) : Int), false, []⟩ := by
        conv => lhs; unfold stateP
        rw [if_neg (show ¬ D.readE ((startN (supOf e q0 s).epoch (roomN D.ls.length) + i : Nat) : Int) = 0 from hr)]
        rfl
      rw [hstep] at he
      exact he
theorem walkP_sm {n : Nat} (hn : 32 ≤ n) (e : Nat) : ∀ (k p place q : Nat) (tx : By) (m : Nat) (f : Bool) (acc : List By) (D : Dk), D.ls.length = n → p + k ≤ roomN n → Sm k D (walkP (roomN n) e k p place q tx m f acc D).D ∧ ((walkP (roomN n) e k p place q tx m f acc D).e = 0 ∨ (walkP (roomN n) e k p place q tx m f acc D).e = 103 ∨ (walkP (roomN n) e k p place q tx m f acc D).e = 104) ∧ (Quiet D → (walkP (roomN n) e k p place q tx m f acc D).e = 0) := by
  intro k
  induction k with
  | zero => intro p place q tx m f acc D _ _; exact ⟨Sm.refl D, Or.inl rfl, fun _ => rfl⟩
  | succ k ih =>
    intro p place q tx m f acc D hl hk
    have ha : startN e (roomN n) + p < D.ls.length := by rw [hl]; exact start_lt hn (by omega)
    have hs := sm_read D ((startN e (roomN n) + p : Nat) : Int)
    have r0 := read_io ha
    unfold walkP
    split
    · exact ⟨(Sm.refl D).mono (by omega), Or.inl rfl, fun _ => rfl⟩
    · split
      · split
        · obtain ⟨h1, h2, h3⟩ := ih (p + 1) (p + 1) (q + 1) [] 0 true (acc ++ [rightB (D.readB ((startN e (roomN n) + p : Nat) : Int)) tagO (e : Int) (q : Int) (p : Int)]) _ (by rw [hs.ls]; exact hl) (by omega)
          exact ⟨(hs.trans h1).mono (by omega), h2, fun z => h3 (hs.quiet z)⟩
        · split
          · obtain ⟨h1, h2, h3⟩ := ih (p + 1) place q (tx ++ rightB (D.readB ((startN e (roomN n) + p : Nat) : Int)) tagD (e : Int) (q : Int) (p : Int)) (m + 1) ((rightB (D.readB ((startN e (roomN n) + p : Nat) : Int)) tagD (e : Int) (q : Int) (p : Int)).length == 480) acc _ (by rw [hs.ls]; exact hl) (by omega)
            exact ⟨(hs.trans h1).mono (by omega), h2, fun z => h3 (hs.quiet z)⟩
          · split
            · obtain ⟨h1, h2, h3⟩ := ih (p + 1) (p + 1) (q + 1) [] 0 true (acc ++ [tx]) _ (by rw [hs.ls]; exact hl) (by omega)
              exact ⟨(hs.trans h1).mono (by omega), h2, fun z => h3 (hs.quiet z)⟩
            · exact ⟨hs.mono (by omega), Or.inl rfl, fun _ => rfl⟩
      · exact ⟨hs.mono (by omega), r0, fun z => read_quiet ha z⟩
/-- Where no transaction is ended any more. -/
theorem walkP_end {X : List By} {e Q : Nat} (hn : 32 ≤ X.length) (hc : ∀ i S, cont X i = some S → S.tag ≠ tagD → S.epoch ≤ (e : Int) ∧ (S.tag ≠ tagS → S.epoch = (e : Int) → S.seq < (Q : Int))) :
    ∀ (k p place : Nat) (tx : By) (m : Nat) (f : Bool) (acc : List By) (D : Dk), view D = X → p + k ≤ roomN X.length → (walkP (roomN X.length) e k p place Q tx m f acc D).e = 0 →
    (walkP (roomN X.length) e k p place Q tx m f acc D).place = place ∧ (walkP (roomN X.length) e k p place Q tx m f acc D).seq = Q ∧ (walkP (roomN X.length) e k p place Q tx m f acc D).txs = acc := by
  intro k
  induction k with
  | zero => intro p place tx m f acc D _ _ _; exact ⟨rfl, rfl, rfl⟩
  | succ k ih =>
    intro p place tx m f acc D hv hk he
    have hl : D.ls.length = X.length := by rw [← hv, view_len]
    have ha : startN e (roomN X.length) + p < D.ls.length := by rw [hl]; exact start_lt hn (by omega)
    have hs := sm_read D ((startN e (roomN X.length) + p : Nat) : Int)
    unfold walkP at he ⊢
    by_cases hq : mq < Q
    · rw [if_pos hq]; exact ⟨rfl, rfl, rfl⟩
    · rw [if_neg hq] at he ⊢
      by_cases hr : D.readE ((startN e (roomN X.length) + p : Nat) : Int) = 0
      · rw [if_pos hr] at he ⊢
        have hb := read_view ha hr
        rw [hv] at hb
        have no : ∀ t, t ≠ tagD → t ≠ tagS → rightO (D.readB ((startN e (roomN X.length) + p : Nat) : Int)) t (e : Int) (Q : Int) (p : Int) = false := by
          intro t h1 h2
          cases ho : rightO (D.readB ((startN e (roomN X.length) + p : Nat) : Int)) t (e : Int) (Q : Int) (p : Int) with
          | false => rfl
          | true =>
            obtain ⟨S, hg, ht, hee, hqq, _⟩ := right_of ho
            rw [hb] at hg
            have := (hc _ S hg (by rw [ht]; exact h1)).2 (by rw [ht]; exact h2) hee
            omega
        have h1 : isOne (D.readB ((startN e (roomN X.length) + p : Nat) : Int)) e Q p m = false := by unfold isOne; rw [no tagO tags_ne.1 tags_ne.2.2.2.1]; rfl
        have h2 : isEnd (D.readB ((startN e (roomN X.length) + p : Nat) : Int)) e Q p m tx = false := by unfold isEnd; rw [no tagC tags_ne.2.1 tags_ne.2.2.2.2]; rfl
        rw [h1, h2] at he ⊢
        simp only [Bool.false_eq_true, if_false] at he ⊢
        by_cases hpt : isPart (D.readB ((startN e (roomN X.length) + p : Nat) : Int)) e Q p m f = true
        · rw [if_pos hpt] at he ⊢
          exact ih (p + 1) place _ _ _ acc _ (by rw [hs.view, hv]) (by omega) he
        · rw [if_neg hpt]; exact ⟨rfl, rfl, rfl⟩
      · rw [if_neg hr] at he
        exact absurd he hr
/-- The pieces of a transaction and its end. -/
theorem walkP_pieces {X : List By} {e q p : Nat} {tx : By} (hn : 32 ≤ X.length) (h480 : 480 < tx.length) (h48 : tx.length ≤ 4800) (hq : q ≤ mq) (hT : TxAt X (roomN X.length) e q p tx) (hroom : p + (pcN tx.length + 1) ≤ roomN X.length) :
    ∀ (c i k : Nat) (f : Bool) (acc : List By) (D : Dk), view D = X → i + c = pcN tx.length → (i < pcN tx.length → f = true) → (walkP (roomN X.length) e (c + 1 + k) (p + i) p q (tx.take (i * 480)) i f acc D).e = 0 →
    ∃ D', view D' = X ∧ walkP (roomN X.length) e (c + 1 + k) (p + i) p q (tx.take (i * 480)) i f acc D = walkP (roomN X.length) e k (p + pcN tx.length + 1) (p + pcN tx.length + 1) (q + 1) [] 0 true (acc ++ [tx]) D' := by
  unfold TxAt at hT
  rw [if_neg (by omega)] at hT
  obtain ⟨hP, hE⟩ := hT
  have hK10 : pcN tx.length ≤ 10 := by unfold pcN; omega
  have hK2 : 2 ≤ pcN tx.length := by unfold pcN; omega
  intro c
  induction c with
  | zero =>
    intro i k f acc D hv hi hf he
    have hii : i = pcN tx.length := by omega
    subst hii
    have hl : D.ls.length = X.length := by rw [← hv, view_len]
    have ha : startN e (roomN X.length) + (p + pcN tx.length) < D.ls.length := by rw [hl]; exact start_lt hn (by omega)
    have hs := sm_read D ((startN e (roomN X.length) + (p + pcN tx.length) : Nat) : Int)
    have htk : tx.take (pcN tx.length * 480) = tx := List.take_of_length_le pcN_le
    rw [htk] at he ⊢
    rw [show 0 + 1 + k = k + 1 by omega] at he ⊢
    refine ⟨D.readD ((startN e (roomN X.length) + (p + pcN tx.length) : Nat) : Int), by rw [hs.view, hv], ?_⟩
    conv => lhs; unfold walkP
    unfold walkP at he
    rw [if_neg (by omega)] at he ⊢
    by_cases hr : D.readE ((startN e (roomN X.length) + (p + pcN tx.length) : Nat) : Int) = 0
    · rw [if_pos hr] at he ⊢
      have hb := read_view ha hr
      have hg : getS (D.readB ((startN e (roomN X.length) + (p + pcN tx.length) : Nat) : Int)) = some (secAt tagC e q (p + pcN tx.length) (endB tx)) := by rw [hb, hv]; exact hE
      have h1 : isOne (D.readB ((startN e (roomN X.length) + (p + pcN tx.length) : Nat) : Int)) e q (p + pcN tx.length) (pcN tx.length) = false := by
        unfold isOne; rw [right_sec hg]; rfl
      have h2 : isPart (D.readB ((startN e (roomN X.length) + (p + pcN tx.length) : Nat) : Int)) e q (p + pcN tx.length) (pcN tx.length) f = false := by
        unfold isPart; rw [right_sec hg]; rfl
      have h3 : isEnd (D.readB ((startN e (roomN X.length) + (p + pcN tx.length) : Nat) : Int)) e q (p + pcN tx.length) (pcN tx.length) tx = true := by
        unfold isEnd
        rw [right_sec hg, rightB_sec hg]
        simp
        omega
      rw [h1, h2, h3]
      simp only [Bool.false_eq_true, if_false, if_true]
    · rw [if_neg hr] at he
      exact absurd he hr
  | succ c ih =>
    intro i k f acc D hv hi hf he
    have hip : i < pcN tx.length := by omega
    have hil := pcN_lt hip
    obtain rfl : f = true := hf hip
    have hl : D.ls.length = X.length := by rw [← hv, view_len]
    have ha : startN e (roomN X.length) + (p + i) < D.ls.length := by rw [hl]; exact start_lt hn (by omega)
    have hs := sm_read D ((startN e (roomN X.length) + (p + i) : Nat) : Int)
    rw [show c + 1 + 1 + k = (c + 1 + k) + 1 by omega] at he ⊢
    have hstep : walkP (roomN X.length) e (c + 1 + k + 1) (p + i) p q (tx.take (i * 480)) i true acc D = (if D.readE ((startN e (roomN X.length) + (p + i) : Nat) : Int) = 0 then walkP (roomN X.length) e (c + 1 + k) (p + (i + 1)) p q (tx.take ((i + 1) * 480)) (i + 1) ((pieceB tx i).length == 480) acc (D.readD ((startN e (roomN X.length) + (p + i) : Nat) : Int)) else ⟨D.readD ((startN e (roomN X.length) + (p + i) : Nat) : Int), D.readE ((startN e (roomN X.length) + (p + i) : Nat) : Int), p, q, acc⟩) := by
      conv => lhs; unfold walkP
      rw [if_neg (by omega)]
      by_cases hr : D.readE ((startN e (roomN X.length) + (p + i) : Nat) : Int) = 0
      · rw [if_pos hr, if_pos hr]
        have hb := read_view ha hr
        have hg : getS (D.readB ((startN e (roomN X.length) + (p + i) : Nat) : Int)) = some (secAt tagD e q (p + i) (pieceB tx i)) := by rw [hb, hv]; exact hP i hip
        have h1 : isOne (D.readB ((startN e (roomN X.length) + (p + i) : Nat) : Int)) e q (p + i) i = false := by
          unfold isOne; rw [right_sec hg]; rfl
        have h2 : isPart (D.readB ((startN e (roomN X.length) + (p + i) : Nat) : Int)) e q (p + i) i true = true := by
          unfold isPart
          rw [right_sec hg, rightB_sec hg, piece_len]
          simp only [beq_self_eq_true, Bool.true_and, Bool.and_eq_true, decide_eq_true_eq, Bool.or_eq_true, beq_iff_eq]
          omega
        rw [h1, h2, rightB_sec hg, take_piece]
        simp only [Bool.false_eq_true, if_false, if_true]
        rfl
      · rw [if_neg hr, if_neg hr]
    rw [hstep] at he ⊢
    by_cases hr : D.readE ((startN e (roomN X.length) + (p + i) : Nat) : Int) = 0
    · rw [if_pos hr] at he ⊢
      refine ih (i + 1) k _ acc _ (by rw [hs.view, hv]) (by omega) (fun hlt => ?_) he
      have := pcN_lt hlt
      rw [piece_len, beq_iff_eq]
      omega
    · rw [if_neg hr] at he
      exact absurd he hr
/-- The walk over the transactions that stand there. -/
theorem walkP_txs {X : List By} {e Q : Nat} (hn : 32 ≤ X.length) (hQ : Q ≤ mq + 1) (hc : ∀ i S, cont X i = some S → S.tag ≠ tagD → S.epoch ≤ (e : Int) ∧ (S.tag ≠ tagS → S.epoch = (e : Int) → S.seq < (Q : Int))) :
    ∀ (txs : List By) (k p q : Nat) (acc : List By) (D : Dk), view D = X → q + txs.length = Q → TxsAt X (roomN X.length) e q p txs → p + k = roomN X.length → p + txsLen txs ≤ roomN X.length → (walkP (roomN X.length) e k p p q [] 0 true acc D).e = 0 →
    (walkP (roomN X.length) e k p p q [] 0 true acc D).place = p + txsLen txs ∧ (walkP (roomN X.length) e k p p q [] 0 true acc D).seq = Q ∧ (walkP (roomN X.length) e k p p q [] 0 true acc D).txs = acc ++ txs := by
  intro txs
  induction txs with
  | nil =>
    intro k p q acc D hv hq _ hk _ he
    obtain rfl : q = Q := by simpa using hq
    obtain ⟨h1, h2, h3⟩ := walkP_end hn hc k p p [] 0 true acc D hv (by omega) he
    exact ⟨by simpa [txsLen] using h1, h2, by simpa using h3⟩
  | cons tx l ih =>
    rintro k p q acc D hv hq ⟨⟨h1, h2⟩, hT, hTs⟩ hk hroom he
    simp only [List.length_cons] at hq
    simp only [txsLen] at hroom ⊢
    have hnp := need_pos h1 h2
    by_cases h480 : tx.length ≤ 480
    · have hn1 := need_one h1 h480
      rw [hn1] at hTs hroom ⊢
      obtain ⟨k', rfl⟩ : ∃ k', k = k' + 1 := ⟨k - 1, by omega⟩
      have hl : D.ls.length = X.length := by rw [← hv, view_len]
      have ha : startN e (roomN X.length) + p < D.ls.length := by rw [hl]; exact start_lt hn (by omega)
      have hs := sm_read D ((startN e (roomN X.length) + p : Nat) : Int)
      unfold TxAt at hT
      rw [if_pos h480] at hT
      unfold walkP at he ⊢
      rw [if_neg (by omega)] at he ⊢
      by_cases hr : D.readE ((startN e (roomN X.length) + p : Nat) : Int) = 0
      · rw [if_pos hr] at he ⊢
        have hb := read_view ha hr
        have hg : getS (D.readB ((startN e (roomN X.length) + p : Nat) : Int)) = some (secAt tagO e q p tx) := by rw [hb, hv]; exact hT
        have ho : isOne (D.readB ((startN e (roomN X.length) + p : Nat) : Int)) e q p 0 = true := by
          unfold isOne
          rw [right_sec hg, rightB_sec hg]
          simp
          exact h1
        rw [if_pos ho, rightB_sec hg] at he ⊢
        obtain ⟨g1, g2, g3⟩ := ih k' (p + 1) (q + 1) (acc ++ [tx]) _ (by rw [hs.view, hv]) (by omega) hTs (by omega) (by omega) he
        exact ⟨by omega, g2, by rw [g3]; simp⟩
      · rw [if_neg hr] at he
        exact absurd he hr
    · have hn1 := need_more (Nat.lt_of_not_le h480) h2
      rw [hn1] at hTs hroom ⊢
      obtain ⟨k', rfl⟩ : ∃ k', k = pcN tx.length + 1 + k' := ⟨k - (pcN tx.length + 1), by omega⟩
      have hw := walkP_pieces hn (Nat.lt_of_not_le h480) h2 (by omega) hT (by omega) (pcN tx.length) 0 k' true acc D hv (by omega) (fun _ => rfl)
      simp only [Nat.zero_mul, List.take_zero, Nat.add_zero] at hw
      obtain ⟨D', hv', hw'⟩ := hw he
      rw [hw'] at he ⊢
      obtain ⟨g1, g2, g3⟩ := ih k' (p + pcN tx.length + 1) (q + 1) (acc ++ [tx]) D' hv' (by omega) (by rw [show p + pcN tx.length + 1 = p + (pcN tx.length + 1) by omega]; exact hTs) (by omega) (by omega) he
      exact ⟨by omega, g2, by rw [g3]; simp⟩
/-- How a log stands that has been opened over an account. -/
def lgOf (room claim e q0 : Nat) (s : By) (txs : List By) : Lg := ⟨room, claim, e, q0 + txs.length, nextP s txs, false, false⟩
structure Opened (D : Dk) (e q0 : Nat) (s : By) (txs : List By) (R : Res) : Prop where
  ls : R.D.ls = D.ls
  ps : R.D.ps = D.ps
  claim : R.D.claim = D.claim + 1
  fs : R.D.fs = D.fs
  done : R.D.done ≤ D.done + (2 + roomN D.ls.length)
  quiet : Quiet D → Quiet R.D ∧ R.e = 0
  tells : (R.e = 103 ∨ R.e = 104) ∨ R = ⟨R.D, 0, lgOf (roomN D.ls.length) (D.claim + 1) e q0 s txs, s, txs⟩
theorem openP_tel {D : Dk} {e q0 : Nat} {s : By} {txs : List By} (h : Tel (view D) e q0 s txs) : Opened D e q0 s txs (openP D) := by
  have hvl := view_len D
  have hn := h.n32
  rw [hvl] at hn
  have h' : Tel (view D.claimD) e q0 s txs := h
  have hC : Quiet D → Quiet D.claimD := fun q => q
  obtain ⟨f1, f2, f3⟩ := foundP_sm D.claimD D.ls.length (roomN D.ls.length) (by show 2 ≤ D.ls.length; omega)
  have fclaim : (foundP D.claimD D.ls.length (roomN D.ls.length)).D.claim = D.claim + 1 := f1.claim
  have fls : (foundP D.claimD D.ls.length (roomN D.ls.length)).D.ls = D.ls := f1.ls
  have fdone : (foundP D.claimD D.ls.length (roomN D.ls.length)).D.done ≤ D.done + 2 := f1.done
  unfold openP
  by_cases hf : (foundP D.claimD D.ls.length (roomN D.ls.length)).e = 0
  · rw [if_pos hf]
    obtain ⟨r, hr⟩ := foundP_tel h' hf
    have hr' : (foundP D.claimD D.ls.length (roomN D.ls.length)).l = supOf e q0 s :: r := hr
    rw [hr']
    generalize foundP D.claimD D.ls.length (roomN D.ls.length) = F at *
    have hvF : view F.D = view D := f1.view
    have hT := h.fit
    rw [hvl] at hT
    obtain ⟨s1, s2, s3⟩ := stateP_sm hn (supOf e q0 s) (pcN s.length) 0 [] F.D (by rw [fls]) (by omega)
    have st := stateP_tel h (pcN s.length) 0 F.D hvF (by omega)
    rw [fls] at st
    simp only [Nat.zero_mul, List.take_zero] at st
    unfold openFrom
    have hpieces : (supOf e q0 s).pieces = pcN s.length := rfl
    rw [hpieces]
    generalize hSt : stateP (roomN D.ls.length) (supOf e q0 s) (pcN s.length) 0 [] F.D = St at *
    have sls : St.D.ls = D.ls := s1.ls.trans fls
    have sdone := s1.done
    have sq : Quiet D → Quiet St.D := fun q => s1.quiet (f1.quiet (hC q))
    by_cases hs : St.e = 0
    · obtain ⟨st1, st2⟩ := st hs
      rw [if_pos hs, if_pos st1, st2]
      have hvS : view St.D = view D := s1.view.trans hvF
      have hw := h.lay
      have hroom := h.room
      rw [hvl] at hw hroom
      have hcl := h.clean
      obtain ⟨w1, w2, w3⟩ := walkP_sm hn e (roomN D.ls.length - pcN s.length) (pcN s.length) (pcN s.length) q0 [] 0 true [] St.D (by rw [sls]) (by omega)
      have wt := walkP_txs (X := view D) (e := e) (Q := q0 + txs.length) (by rw [hvl]; exact hn) h.qM hcl txs (roomN D.ls.length - pcN s.length) (pcN s.length) q0 [] St.D hvS rfl h.lay (by rw [hvl]; omega) (by rw [hvl]; exact hroom)
      rw [hvl] at wt
      have hwk : St.wk (roomN D.ls.length) (supOf e q0 s) = walkP (roomN D.ls.length) e (roomN D.ls.length - pcN s.length) (pcN s.length) (pcN s.length) q0 [] 0 true [] St.D := rfl
      rw [hwk]
      generalize walkP (roomN D.ls.length) e (roomN D.ls.length - pcN s.length) (pcN s.length) (pcN s.length) q0 [] 0 true [] St.D = K at *
      have wdone := w1.done
      have kls : K.D.ls = D.ls := w1.ls.trans sls
      have kps : K.D.ps = D.ps := (w1.ps.trans s1.ps).trans f1.ps
      have kcl : K.D.claim = D.claim + 1 := (w1.claim.trans s1.claim).trans fclaim
      have kfs : K.D.fs = D.fs := (w1.fs.trans s1.fs).trans f1.fs
      unfold Wk.res
      by_cases hk : K.e = 0
      · rw [if_pos hk]
        obtain ⟨g1, g2, g3⟩ := wt hk
        refine ⟨kls, kps, kcl, kfs, by show K.D.done ≤ _; omega, fun q => ⟨w1.quiet (sq q), rfl⟩, Or.inr ?_⟩
        simp only [g1, g2, g3, List.nil_append]
        rfl
      · rw [if_neg hk]
        exact ⟨kls, kps, kcl, kfs, by show K.D.done ≤ _; omega, fun q => absurd (w3 (sq q)) hk, Or.inl (by rcases w2 with w | w | w; exact absurd w hk; exact Or.inl w; exact Or.inr w)⟩
    · rw [if_neg hs]
      exact ⟨sls, s1.ps.trans f1.ps, s1.claim.trans fclaim, s1.fs.trans f1.fs, by show St.D.done ≤ _; omega, fun q => absurd (s3 (f1.quiet (hC q))) hs, Or.inl (by rcases s2 with w | w | w; exact absurd w hs; exact Or.inl w; exact Or.inr w)⟩
  · rw [if_neg hf]
    exact ⟨fls, f1.ps, fclaim, f1.fs, by show (foundP D.claimD D.ls.length (roomN D.ls.length)).D.done ≤ _; omega, fun q => absurd (f3 (hC q)) hf, Or.inl (by rcases f2 with w | w | w; exact absurd w hf; exact Or.inl w; exact Or.inr w)⟩
end Wl
end Go.Proofs.YthaiibfnjgfgjaaDoor
namespace Go.Proofs.YthaiibfnjgfgjaaDoor
namespace Wl
theorem opD_done0 {D : Dk} (h : D.opE = 0) : D.opD.done = D.done + 1 := by
  unfold Dk.opE at h
  unfold Dk.opD
  split at h
  · cases h
  · rename_i h1
    rw [if_neg h1]
/-- A write that was taken. -/
structure Took (D D' : Dk) (a : Nat) (b : By) : Prop where
  ls : D'.ls = D.ls
  ps : D'.ps = D.ps ++ [(a, b)]
  claim : D'.claim = D.claim
  fs : D'.fs = D.fs
  done : D'.done = D.done + 1
  quiet : Quiet D → Quiet D'
theorem write_eff {D : Dk} {a : Nat} {S : Sec} (ha : a < D.ls.length) (hS : S.may = true) : (wrE D a S = 0 ∧ Took D (wrD D a S) a S.bytes) ∨ ((wrE D a S = 103 ∨ wrE D a S = 104) ∧ Sm 1 D (wrD D a S) ∧ ¬ Quiet D) := by
  unfold wrE wrD Dk.writeE Dk.writeD
  rw [inn_nat ha, if_pos rfl, if_pos rfl, if_pos (bytes_len hS), if_pos (bytes_len hS)]
  rcases opE_io D with h | h
  · left
    refine ⟨h, ?_⟩
    rw [if_pos h]
    exact ⟨D.opD_ls, by simp, D.opD_claim, D.opD_fs, opD_done0 h, fun q => q.opD⟩
  · right
    have hne : D.opE ≠ 0 := by omega
    rw [if_neg hne]
    exact ⟨h, sm_op D, fun q => hne q.opE⟩
/-- A flush that was done. -/
structure Laid (D D' : Dk) : Prop where
  ls : D'.ls = view D
  ps : D'.ps = []
  claim : D'.claim = D.claim
  fs : D'.fs = D.fs
  done : D'.done = D.done + 1
  quiet : Quiet D → Quiet D'
theorem flush_eff (D : Dk) : (D.opE = 0 ∧ Laid D D.flushD) ∨ ((D.opE = 103 ∨ D.opE = 104) ∧ Sm 1 D D.flushD ∧ ¬ Quiet D) := by
  unfold Dk.flushD
  rcases opE_io D with h | h
  · left
    rw [if_pos h]
    exact ⟨h, rfl, rfl, D.opD_claim, D.opD_fs, opD_done0 h, fun q => q.opD⟩
  · right
    have hne : D.opE ≠ 0 := by omega
    rw [if_neg hne]
    exact ⟨h, sm_op D, fun q => hne q.opE⟩
/-- Every way in which a crash may leave the device is of P. -/
def All (P : List By → Prop) (D : Dk) : Prop := ∀ X, Out D.ps D.ls X → P X
theorem All.sm {P : List By → Prop} {k : Nat} {D D' : Dk} (h : All P D) (s : Sm k D D') : All P D' := by
  unfold All
  rw [s.ls, s.ps]
  exact h
theorem All.view {P : List By → Prop} {D : Dk} (h : All P D) : P (view D) := h _ (out_all _ _)
theorem All.laid {P : List By → Prop} {D D' : Dk} (h : All P D) (s : Laid D D') : All P D' := by
  intro X hX
  rw [s.ps, s.ls] at hX
  rw [out_nil hX]
  exact h.view
theorem All.took {P Q : List By → Prop} {D D' : Dk} {a : Nat} {b : By} (h : All P D) (s : Took D D' a b) (hQ : ∀ X, X.length = D.ls.length → P X → Q X ∧ Q (X.set a b)) : All Q D' := by
  intro X hX
  rw [s.ps, s.ls] at hX
  obtain ⟨Y, hY, hX⟩ := out_snoc hX
  have := hQ Y (out_len hY) (h Y hY)
  rcases hX with rfl | rfl
  · exact this.1
  · exact this.2
theorem All.mono {P Q : List By → Prop} {D : Dk} (h : All P D) (hPQ : ∀ X, X.length = D.ls.length → P X → Q X) : All Q D := fun X hX => hPQ X (out_len hX) (h X hX)
theorem All.crash {P : List By → Prop} {D : Dk} (h : All P D) (keep : List Bool) : All P (D.crashD keep) := by
  intro X hX
  rw [out_nil hX]
  exact h _ ⟨keep, rfl⟩
theorem crash_quiet (D : Dk) (keep : List Bool) : Quiet (D.crashD keep) := ⟨rfl, rfl⟩
/-- How many of them pend: for sizes alone. -/
structure Pcs (D : Dk) (n K k : Nat) (A : Nat → Nat) (S : Nat → Sec) (P : List By → Prop) (R : Dk × Int) : Prop where
  all : All P R.1
  len : R.1.ls.length = n
  claim : R.1.claim = D.claim
  fs : R.1.fs = D.fs
  quiet : Quiet D → Quiet R.1 ∧ R.2 = 0
  res : (R.2 = 103 ∨ R.2 = 104) ∨ (R.2 = 0 ∧ R.1.ps = [] ∧ R.1.done = D.done + k + 1 ∧ ∀ j, j < K → cont R.1.ls (A j) = some (S j))
theorem piecesP_inv {n room q e p K : Nat} {b : By} {P : List By → Prop} (hmay : ∀ i, i < K → (secAt tagD e q (p + i) (pieceB b i)).may = true) (hpos : ∀ i, i < K → startN e room + p + i < n)
    (hstep : ∀ i X, i < K → X.length = n → P X → P (X.set (startN e room + p + i) (secAt tagD e q (p + i) (pieceB b i)).bytes)) :
    ∀ (k i : Nat) (D : Dk), i + k = K → D.ls.length = n → All P D → (∀ j, j < i → cont (view D) (startN e room + p + j) = some (secAt tagD e q (p + j) (pieceB b j))) →
    Pcs D n K k (fun j => startN e room + p + j) (fun j => secAt tagD e q (p + j) (pieceB b j)) P (piecesP room q e p b k i D) := by
  intro k
  induction k with
  | zero =>
    intro i D hi hl hA hj
    unfold piecesP
    rcases flush_eff D with ⟨h0, hL⟩ | ⟨h0, hS, hQ⟩
    · exact ⟨hA.laid hL, by show D.flushD.ls.length = n; rw [hL.ls, view_len]; exact hl, hL.claim, hL.fs, fun z => ⟨hL.quiet z, h0⟩, Or.inr ⟨h0, hL.ps, by show D.flushD.done = _; rw [hL.done], fun j hjK => by show cont D.flushD.ls _ = _; rw [hL.ls]; exact hj j (by omega)⟩⟩
    · exact ⟨hA.sm hS, by show D.flushD.ls.length = n; rw [hS.ls]; exact hl, hS.claim, hS.fs, fun z => absurd z hQ, Or.inl h0⟩
  | succ k ih =>
    intro i D hi hl hA hj
    have hiK : i < K := by omega
    have hm := hmay i hiK
    have ha : startN e room + p + i < D.ls.length := by rw [hl]; exact hpos i hiK
    unfold piecesP
    rcases write_eff ha hm with ⟨h0, hT⟩ | ⟨h0, hS, hQ⟩
    · rw [if_pos h0]
      have hv : view (wrD D (startN e room + p + i) (secAt tagD e q (p + i) (pieceB b i))) = (view D).set (startN e room + p + i) (secAt tagD e q (p + i) (pieceB b i)).bytes := by
        unfold view
        rw [hT.ls, hT.ps, lay_snoc]
      have := ih (i + 1) _ (by omega) (by rw [hT.ls]; exact hl) (hA.took hT (fun X hX hP => ⟨hP, hstep i X hiK (by omega) hP⟩)) (fun j hji => by
        rw [hv, cont_set _ _ (by rw [view_len]; exact ha)]
        by_cases hij : i = j
        · subst hij
          rw [if_pos rfl]
          exact getS_bytes hm
        · rw [if_neg (by omega)]
          exact hj j (by omega))
      obtain ⟨r1, r2, r3, r4, r5, r6⟩ := this
      refine ⟨r1, r2, r3.trans hT.claim, r4.trans hT.fs, fun z => r5 (hT.quiet z), ?_⟩
      rcases r6 with r6 | ⟨g1, g2, g3, g4⟩
      · exact Or.inl r6
      · exact Or.inr ⟨g1, g2, by rw [g3, hT.done]; omega, g4⟩
    · rw [if_neg (by omega)]
      exact ⟨hA.sm hS, by show (wrD D _ _).ls.length = n; rw [hS.ls]; exact hl, hS.claim, hS.fs, fun z => absurd z hQ, Or.inl h0⟩
structure Lst (D : Dk) (a : Nat) (b : By) (Q : List By → Prop) (R : Dk × Int) : Prop where
  all : All Q R.1
  len : R.1.ls.length = D.ls.length
  claim : R.1.claim = D.claim
  fs : R.1.fs = D.fs
  quiet : Quiet D → Quiet R.1 ∧ R.2 = 0
  res : (R.2 = 103 ∨ R.2 = 104) ∨ (R.2 = 0 ∧ R.1.ps = [] ∧ R.1.done = D.done + 2 ∧ R.1.ls = (view D).set a b)
theorem lastP_inv {D : Dk} {a : Nat} {S : Sec} {P Q : List By → Prop} (ha : a < D.ls.length) (hS : S.may = true) (hA : All P D) (hQ : ∀ X, X.length = D.ls.length → P X → Q X ∧ Q (X.set a S.bytes)) : Lst D a S.bytes Q (lastP D a S) := by
  unfold lastP
  rcases write_eff ha hS with ⟨h0, hT⟩ | ⟨h0, hSm, hQu⟩
  · rw [if_pos h0]
    have hv : view (wrD D a S) = (view D).set a S.bytes := by
      unfold view
      rw [hT.ls, hT.ps, lay_snoc]
    have hA2 : All Q (wrD D a S) := hA.took hT hQ
    rcases flush_eff (wrD D a S) with ⟨g0, hL⟩ | ⟨g0, hSm, hQu⟩
    · exact ⟨hA2.laid hL, by show (wrD D a S).flushD.ls.length = _; rw [hL.ls, view_len, hT.ls], hL.claim.trans hT.claim, hL.fs.trans hT.fs, fun z => ⟨hL.quiet (hT.quiet z), g0⟩, Or.inr ⟨g0, hL.ps, by show (wrD D a S).flushD.done = _; rw [hL.done, hT.done], by show (wrD D a S).flushD.ls = _; rw [hL.ls, hv]⟩⟩
    · exact ⟨hA2.sm hSm, by show (wrD D a S).flushD.ls.length = _; rw [hSm.ls, hT.ls], hSm.claim.trans hT.claim, hSm.fs.trans hT.fs, fun z => absurd (hT.quiet z) hQu, Or.inl g0⟩
  · rw [if_neg (by omega)]
    exact ⟨(hA.mono (fun X hX hP => (hQ X hX hP).1)).sm hSm, by show (wrD D a S).ls.length = _; rw [hSm.ls], hSm.claim, hSm.fs, fun z => absurd z hQu, Or.inl h0⟩
/-- Nothing pends, the device tells the account, the log stands behind it and is safe. -/
structure Calm (D : Dk) (l : Lg) (e q0 : Nat) (s : By) (txs : List By) : Prop where
  ps : D.ps = []
  tel : Tel D.ls e q0 s txs
  lg : l = ⟨roomN D.ls.length, D.claim, e, q0 + txs.length, nextP s txs, true, false⟩
theorem Calm.all {D : Dk} {l : Lg} {e q0 : Nat} {s : By} {txs : List By} (h : Calm D l e q0 s txs) : All (fun X => X.length = D.ls.length ∧ Tel X e q0 s txs) D := by
  intro X hX
  rw [h.ps] at hX
  rw [out_nil hX]
  exact ⟨rfl, h.tel⟩
theorem Calm.over {D : Dk} {l : Lg} {e q0 : Nat} {s : By} {txs : List By} (h : Calm D l e q0 s txs) : l.over D = false ∧ l.safe = true := by
  rw [h.lg]
  simp [Lg.over]
theorem mem_tags : tagS ∈ tags ∧ tagD ∈ tags ∧ tagC ∈ tags ∧ tagO ∈ tags := by decide
theorem secAt_may {t : By} {e q p : Nat} {b : By} (ht : t ∈ tags) (he : 1 ≤ e) (he1 : e ≤ mq) (hq : 1 ≤ q) (hq1 : q ≤ mq) (hp : p ≤ 8191) (hb : b.length ≤ 480) : (secAt t e q p b).may = true := by
  unfold mq at he1 hq1
  refine may_iff.2 ⟨ht, ⟨?_, ?_⟩, ⟨?_, ?_⟩, ⟨?_, ?_⟩, hb⟩ <;> simp only [secAt] <;> omega
theorem end_len (tx : By) : (endB tx).length = 10 := by simp [endB, num_len, sumB_len]
theorem roomN_le {n : Nat} (h : n ≤ 8192) : roomN n ≤ 4095 := by unfold roomN; omega
/-- An answer of a call of a safe log that would make the account that. -/
structure Called (D : Dk) (l : Lg) (e q0 : Nat) (s : By) (txs : List By) (no : Int → Prop) (ops e' q0' : Nat) (s' : By) (txs' : List By) (R : Ans) : Prop where
  len : R.D.ls.length = D.ls.length
  claim : R.D.claim = D.claim
  fs : R.D.fs = D.fs
  quiet : Quiet D → Quiet R.D ∧ R.e ≠ 103 ∧ R.e ≠ 104
  res : (R = ⟨D, l, R.e⟩ ∧ R.e ≠ 0 ∧ no R.e) ∨ ((R.e = 103 ∨ R.e = 104) ∧ All (fun X => X.length = D.ls.length ∧ (Tel X e q0 s txs ∨ Tel X e' q0' s' txs')) R.D) ∨ (R.e = 0 ∧ (∀ z, ¬ no z) ∧ Calm R.D R.l e' q0' s' txs' ∧ R.D.done = D.done + ops)
/-- Why an Append is refused without an operation. -/
def noAppend (l : Lg) (n : Nat) (z : Int) : Prop := (needN n = 0 ∧ z = 111) ∨ (needN n ≠ 0 ∧ l.room < l.place + needN n ∧ z = 112)
theorem appendP_law {D : Dk} {l : Lg} {e q0 : Nat} {s : By} {txs : List By} (h : Calm D l e q0 s txs) (tx : By) (hq : q0 + txs.length ≤ mq) :
    Called D l e q0 s txs (noAppend l tx.length) (if 1 < needN tx.length then needN tx.length + 2 else 2) e q0 s (txs ++ [tx]) (appendP D l tx) := by
  have ho := h.over
  have hE : appendE D l tx.length = if needN tx.length = 0 then 111 else if l.room < l.place + needN tx.length then 112 else 0 := by
    unfold appendE
    rw [ho.1, ho.2, if_neg (by simp), if_neg (show ¬ mq < l.seq by rw [h.lg]; show ¬ mq < q0 + txs.length; omega)]
  unfold appendP
  by_cases h0 : needN tx.length = 0
  · rw [hE, if_pos h0, if_neg (show ¬ (111 : Int) = 0 by decide)]
    exact ⟨rfl, rfl, rfl, fun z => ⟨z, (show (111 : Int) ≠ 103 by decide), (show (111 : Int) ≠ 104 by decide)⟩, Or.inl ⟨rfl, (show (111 : Int) ≠ 0 by decide), Or.inl ⟨h0, rfl⟩⟩⟩
  · by_cases hfull : l.room < l.place + needN tx.length
    · rw [hE, if_neg h0, if_pos hfull, if_neg (show ¬ (112 : Int) = 0 by decide)]
      exact ⟨rfl, rfl, rfl, fun z => ⟨z, (show (112 : Int) ≠ 103 by decide), (show (112 : Int) ≠ 104 by decide)⟩, Or.inl ⟨rfl, (show (112 : Int) ≠ 0 by decide), Or.inr ⟨h0, hfull, rfl⟩⟩⟩
    · have hno : ∀ z, ¬ noAppend l tx.length z := by
        rintro z (⟨h1, _⟩ | ⟨_, h1, _⟩)
        · exact h0 h1
        · exact hfull h1
      rw [hE, if_neg h0, if_neg hfull, if_pos (show (0 : Int) = 0 from rfl)]
      have h12 : 1 ≤ tx.length ∧ tx.length ≤ 4800 := by
        unfold needN at h0
        split at h0
        · exact absurd rfl h0
        · omega
      have hlg := h.lg
      have hT := h.tel
      have hn8 := hT.n8
      have hn32 := hT.n32
      have hroom : nextP s txs + needN tx.length ≤ roomN D.ls.length := by rw [hlg] at hfull; simp only at hfull; omega
      have hr := roomN_le hn8
      -- the pieces
      have hahead : ∃ D1, aheadP D l tx = (D1, (aheadP D l tx).2) ∧ D1.ls.length = D.ls.length ∧ D1.claim = D.claim ∧ D1.fs = D.fs ∧ (Quiet D → Quiet D1 ∧ (aheadP D l tx).2 = 0) ∧ All (fun X => X.length = D.ls.length ∧ Tel X e q0 s txs) D1 ∧
          (((aheadP D l tx).2 = 103 ∨ (aheadP D l tx).2 = 104) ∨ ((aheadP D l tx).2 = 0 ∧ D1.ps = [] ∧ D1.done = D.done + (if 1 < needN tx.length then needN tx.length else 0) ∧ (480 < tx.length → ∀ i, i < pcN tx.length → cont D1.ls (startN e (roomN D.ls.length) + (nextP s txs + i)) = some (secAt tagD e (q0 + txs.length) (nextP s txs + i) (pieceB tx i))))) := by
        unfold aheadP
        by_cases h1 : 1 < needN tx.length
        · rw [if_pos h1, if_pos h1, hlg]
          have h480 : 480 < tx.length := by
            unfold needN at h1
            split at h1
            · omega
            · split at h1 <;> omega
          have hnm := need_more h480 h12.2
          have hP := piecesP_inv (n := D.ls.length) (room := roomN D.ls.length) (q := q0 + txs.length) (e := e) (p := nextP s txs) (K := pcN tx.length) (b := tx) (P := fun X => X.length = D.ls.length ∧ Tel X e q0 s txs)
            (fun i hi => secAt_may mem_tags.2.1 hT.e0 hT.eM (by have := hT.q1; omega) hq (by omega) (by rw [piece_len]; omega))
            (fun i hi => by rw [Nat.add_assoc]; exact start_lt hn32 (by omega))
            (fun i X hi hX hPX => ⟨by rw [List.length_set]; exact hX, hPX.2.piece (secAt_may mem_tags.2.1 hT.e0 hT.eM (by have := hT.q1; omega) hq (by omega) (by rw [piece_len]; omega)) rfl (by rw [hX, Nat.add_assoc]; exact start_lt hn32 (by omega)) (by rw [Nat.add_assoc]; exact start_two _ _ _) (fun j hj hje => by rw [hX] at hje; omega)⟩)
            (pcN tx.length) 0 D (by omega) rfl h.all (fun j hj => absurd hj (by omega))
          obtain ⟨r1, r2, r3, r4, r5, r6⟩ := hP
          refine ⟨_, rfl, r2, r3, r4, r5, r1, ?_⟩
          rcases r6 with r6 | ⟨g1, g2, g3, g4⟩
          · exact Or.inl r6
          · refine Or.inr ⟨g1, g2, by rw [g3]; omega, fun _ i hi => ?_⟩
            have := g4 i hi
            rwa [Nat.add_assoc] at this
        · rw [if_neg h1, if_neg h1]
          have h480 : ¬ 480 < tx.length := by
            intro hc
            have := need_more hc h12.2
            have : 1 ≤ pcN tx.length := by unfold pcN; omega
            omega
          exact ⟨D, rfl, rfl, rfl, rfl, fun z => ⟨z, rfl⟩, h.all, Or.inr ⟨rfl, h.ps, rfl, fun hc => absurd hc h480⟩⟩
      obtain ⟨D1, hD1, a1, a2, a3, a4, a5, a6⟩ := hahead
      generalize (aheadP D l tx).2 = e1 at *
      rw [hD1]
      simp only
      rcases a6 with a6 | ⟨g1, g2, g3, g4⟩
      · rw [if_neg (show ¬ e1 = 0 by omega)]
        exact ⟨a1, a2, a3, fun z => absurd (a4 z).2 (by omega), Or.inr (Or.inl ⟨a6, a5.mono (fun X _ hX => ⟨hX.1, Or.inl hX.2⟩)⟩)⟩
      · rw [if_pos g1]
        have hnp := need_pos h12.1 h12.2
        have hS : lastS l tx = if tx.length ≤ 480 then secAt tagO e (q0 + txs.length) (nextP s txs) tx else secAt tagC e (q0 + txs.length) (nextP s txs + pcN tx.length) (endB tx) := by
          unfold lastS
          rw [hlg]
          by_cases h480 : tx.length ≤ 480
          · have := need_one h12.1 h480
            rw [if_pos h480, this, if_neg (by omega)]
            simp
          · have := need_more (Nat.lt_of_not_le h480) h12.2
            have h1 : 1 ≤ pcN tx.length := by unfold pcN; omega
            rw [if_neg h480, this, if_pos (by omega)]
            simp only [Nat.add_succ_sub_one, ← Nat.add_assoc, Nat.add_zero]
        have hSm : (lastS l tx).may = true := by
          rw [hS]
          split
          · exact secAt_may mem_tags.2.2.2 hT.e0 hT.eM (by have := hT.q1; omega) hq (by omega) (by assumption)
          · have := need_more (n := tx.length) (by omega) h12.2
            exact secAt_may mem_tags.2.2.1 hT.e0 hT.eM (by have := hT.q1; omega) hq (by omega) (by rw [end_len]; omega)
        have hA : lastA l tx = startN e (roomN D.ls.length) + (nextP s txs + needN tx.length - 1) := by unfold lastA; rw [hlg]
        have hL := lastP_inv (D := D1) (a := lastA l tx) (S := lastS l tx) (P := fun X => X = D1.ls) (Q := fun X => X.length = D.ls.length ∧ (Tel X e q0 s txs ∨ Tel X e q0 s (txs ++ [tx]))) (by rw [a1, hA]; exact start_lt hn32 (by omega)) hSm
          (fun X hX => by rw [g2] at hX; exact out_nil hX)
          (fun X hX hP => by
            subst hP
            have hTel := (a5 D1.ls (out_none _ _)).2
            refine ⟨⟨a1, Or.inl hTel⟩, by rw [List.length_set]; exact a1, Or.inr ?_⟩
            refine hTel.more hSm h12.1 h12.2 hq (by rw [a1]; exact hroom) (by rw [a1]; exact hA) hS (fun h480 i hi => ?_)
            rw [a1]
            exact g4 h480 i hi)
        obtain ⟨r1, r2, r3, r4, r5, r6⟩ := hL
        rcases r6 with r6 | ⟨f1, f2, f3, f4⟩
        · rw [if_neg (show ¬ (lastP D1 (lastA l tx) (lastS l tx)).2 = 0 by omega)]
          exact ⟨r2.trans a1, r3.trans a2, r4.trans a3, fun z => absurd (r5 (a4 z).1).2 (by omega), Or.inr (Or.inl ⟨r6, r1⟩)⟩
        · rw [if_pos f1]
          refine ⟨r2.trans a1, r3.trans a2, r4.trans a3, fun z => ⟨(r5 (a4 z).1).1, by simp, by simp⟩, Or.inr (Or.inr ⟨rfl, hno, ⟨f2, ?_, ?_⟩, ?_⟩)⟩
          · show Tel (lastP D1 (lastA l tx) (lastS l tx)).1.ls e q0 s (txs ++ [tx])
            have hv : view D1 = D1.ls := by unfold view; rw [g2]; rfl
            rw [f4, hv]
            have hTel := (a5 D1.ls (out_none _ _)).2
            refine hTel.more hSm h12.1 h12.2 hq (by rw [a1]; exact hroom) (by rw [a1]; exact hA) hS (fun h480 i hi => ?_)
            rw [a1]
            exact g4 h480 i hi
          · show ({ l with place := l.place + needN tx.length, seq := l.seq + 1 } : Lg) = ⟨roomN (lastP D1 (lastA l tx) (lastS l tx)).1.ls.length, (lastP D1 (lastA l tx) (lastS l tx)).1.claim, e, q0 + (txs ++ [tx]).length, nextP s (txs ++ [tx]), true, false⟩
            rw [r2.trans a1, r3.trans a2, hlg]
            simp only [List.length_append, List.length_singleton, nextP, txsLen_app, Lg.mk.injEq, and_true, true_and]
            omega
          · show (lastP D1 (lastA l tx) (lastS l tx)).1.done = _
            rw [f3, g3]
            split <;> omega
def noCheck (l : Lg) (n : Nat) (z : Int) : Prop := l.room < pcN n + 11 ∧ z = 112
theorem checkP_law {D : Dk} {l : Lg} {e q0 : Nat} {s : By} {txs : List By} (h : Calm D l e q0 s txs) (t : By) (hq : q0 + txs.length ≤ mq) (he : e < mq) :
    Called D l e q0 s txs (noCheck l t.length) (pcN t.length + 3) (e + 1) (q0 + txs.length) t [] (checkP D l t) := by
  have ho := h.over
  have hlg := h.lg
  have hT := h.tel
  have hE : checkE D l t.length = if l.room < pcN t.length + 11 then 112 else 0 := by
    unfold checkE
    rw [ho.1, ho.2, if_neg (by simp), if_neg (show ¬ (mq < l.seq ∨ mq ≤ l.epoch) by rw [hlg]; show ¬ (mq < q0 + txs.length ∨ mq ≤ e); omega)]
  unfold checkP
  by_cases hfull : l.room < pcN t.length + 11
  · rw [hE, if_pos hfull, if_neg (show ¬ (112 : Int) = 0 by decide)]
    exact ⟨rfl, rfl, rfl, fun z => ⟨z, (show (112 : Int) ≠ 103 by decide), (show (112 : Int) ≠ 104 by decide)⟩, Or.inl ⟨rfl, (show (112 : Int) ≠ 0 by decide), hfull, rfl⟩⟩
  · have hno : ∀ z, ¬ noCheck l t.length z := fun z hz => hfull hz.1
    rw [hE, if_neg hfull, if_pos (show (0 : Int) = 0 from rfl)]
    have hn8 := hT.n8
    have hn32 := hT.n32
    have hfit : pcN t.length + 11 ≤ roomN D.ls.length := by rw [hlg] at hfull; simp only at hfull; omega
    have hr := roomN_le hn8
    have hnx : nextP s txs ≤ roomN D.ls.length := hT.room
    have hpm : ∀ i, i < pcN t.length → (secAt tagD (e + 1) (q0 + txs.length) (0 + i) (pieceB t i)).may = true := fun i hi => secAt_may mem_tags.2.1 (by omega) (by omega) (by have := hT.q1; omega) hq (by omega) (by rw [piece_len]; omega)
    have hP := piecesP_inv (n := D.ls.length) (room := roomN D.ls.length) (q := q0 + txs.length) (e := e + 1) (p := 0) (K := pcN t.length) (b := t) (P := fun X => X.length = D.ls.length ∧ Tel X e q0 s txs) hpm
      (fun i hi => by rw [Nat.add_assoc]; exact start_lt hn32 (by omega))
      (fun i X hi hX hPX => ⟨by rw [List.length_set]; exact hX, hPX.2.piece (hpm i hi) rfl (by rw [hX, Nat.add_assoc]; exact start_lt hn32 (by omega)) (by rw [Nat.add_assoc]; exact start_two _ _ _) (fun j hj hje => by
        rw [hX, Nat.add_assoc] at hje
        have := (start_inj (by omega) (by omega) hje).1
        omega)⟩)
      (pcN t.length) 0 D (by omega) rfl h.all (fun j hj => absurd hj (by omega))
    have hst : statesP D l t = piecesP (roomN D.ls.length) (q0 + txs.length) (e + 1) 0 t (pcN t.length) 0 D := by unfold statesP; rw [hlg]
    rw [hst]
    generalize piecesP (roomN D.ls.length) (q0 + txs.length) (e + 1) 0 t (pcN t.length) 0 D = R at *
    obtain ⟨D1, e1⟩ := R
    obtain ⟨a5, a1, a2, a3, a4, a6⟩ := hP
    simp only at a5 a1 a2 a3 a4 a6 ⊢
    rcases a6 with a6 | ⟨g1, g2, g3, g4⟩
    · rw [if_neg (show ¬ e1 = 0 by omega)]
      exact ⟨a1, a2, a3, fun z => absurd (a4 z).2 (by omega), Or.inr (Or.inl ⟨a6, a5.mono (fun X _ hX => ⟨hX.1, Or.inl hX.2⟩)⟩)⟩
    · rw [if_pos g1]
      have hep : l.epoch = e := by rw [hlg]
      have hS : superS l D.ls.length t = secAt tagS (e + 1) (q0 + txs.length) ((e + 1) % 2) (superB D1.ls.length t) := by unfold superS; rw [hlg, a1]
      have hSm : (superS l D.ls.length t).may = true := by
        rw [hS]
        exact secAt_may mem_tags.1 (by omega) (by omega) (by have := hT.q1; omega) hq (by omega) (by rw [super_len]; omega)
      have hcheck : Tel (D1.ls.set ((e + 1) % 2) (superS l D.ls.length t).bytes) (e + 1) (q0 + txs.length) t [] := by
        have hTel := (a5 D1.ls (out_none _ _)).2
        rw [hS] at hSm ⊢
        refine hTel.check hSm he (by rw [a1]; exact hfit) (fun i hi => ?_)
        have := g4 i hi
        rw [a1]
        simpa using this
      rw [hep]
      have hL := lastP_inv (D := D1) (a := (e + 1) % 2) (S := superS l D.ls.length t) (P := fun X => X = D1.ls) (Q := fun X => X.length = D.ls.length ∧ (Tel X e q0 s txs ∨ Tel X (e + 1) (q0 + txs.length) t [])) (by rw [a1]; omega) hSm
        (fun X hX => by rw [g2] at hX; exact out_nil hX)
        (fun X hX hP => by
          subst hP
          exact ⟨⟨a1, Or.inl (a5 D1.ls (out_none _ _)).2⟩, by rw [List.length_set]; exact a1, Or.inr hcheck⟩)
      obtain ⟨r1, r2, r3, r4, r5, r6⟩ := hL
      rcases r6 with r6 | ⟨f1, f2, f3, f4⟩
      · rw [if_neg (show ¬ (lastP D1 ((e + 1) % 2) (superS l D.ls.length t)).2 = 0 by omega)]
        exact ⟨r2.trans a1, r3.trans a2, r4.trans a3, fun z => absurd (r5 (a4 z).1).2 (by omega), Or.inr (Or.inl ⟨r6, r1⟩)⟩
      · rw [if_pos f1]
        refine ⟨r2.trans a1, r3.trans a2, r4.trans a3, fun z => ⟨(r5 (a4 z).1).1, by simp, by simp⟩, Or.inr (Or.inr ⟨rfl, hno, ⟨f2, ?_, ?_⟩, ?_⟩)⟩
        · show Tel (lastP D1 ((e + 1) % 2) (superS l D.ls.length t)).1.ls (e + 1) (q0 + txs.length) t []
          have hv : view D1 = D1.ls := by unfold view; rw [g2]; rfl
          rw [f4, hv]
          exact hcheck
        · show ({ l with epoch := e + 1, place := pcN t.length } : Lg) = ⟨roomN (lastP D1 ((e + 1) % 2) (superS l D.ls.length t)).1.ls.length, (lastP D1 ((e + 1) % 2) (superS l D.ls.length t)).1.claim, e + 1, q0 + txs.length + ([] : List By).length, nextP t [], true, false⟩
          rw [r2.trans a1, r3.trans a2, hlg]
          simp only [nextP, txsLen, List.length_nil, Nat.add_zero]
        · show (lastP D1 ((e + 1) % 2) (superS l D.ls.length t)).1.done = _
          rw [f3, g3]
          omega
/-- Safe, of a log that stands behind the account that the device tells. -/
theorem safeP_law {D : Dk} {e q0 : Nat} {s : By} {txs : List By} (h : Tel (view D) e q0 s txs) :
    ((safeP D (lgOf (roomN D.ls.length) D.claim e q0 s txs)).e = 0 ∧ Calm (safeP D (lgOf (roomN D.ls.length) D.claim e q0 s txs)).D (safeP D (lgOf (roomN D.ls.length) D.claim e q0 s txs)).l e q0 s txs ∧ Laid D (safeP D (lgOf (roomN D.ls.length) D.claim e q0 s txs)).D) ∨
    (((safeP D (lgOf (roomN D.ls.length) D.claim e q0 s txs)).e = 103 ∨ (safeP D (lgOf (roomN D.ls.length) D.claim e q0 s txs)).e = 104) ∧ Sm 1 D (safeP D (lgOf (roomN D.ls.length) D.claim e q0 s txs)).D ∧ ¬ Quiet D) := by
  have ho : (lgOf (roomN D.ls.length) D.claim e q0 s txs).over D = false := by simp [Lg.over, lgOf]
  have hs : (lgOf (roomN D.ls.length) D.claim e q0 s txs).safe = false := rfl
  unfold safeP
  rw [ho, hs]
  simp only [Bool.false_eq_true, if_false]
  rcases flush_eff D with ⟨h0, hL⟩ | ⟨h0, hS, hQ⟩
  · left
    refine ⟨h0, ⟨hL.ps, by show Tel D.flushD.ls e q0 s txs; rw [hL.ls]; exact h, ?_⟩, hL⟩
    show ({ (lgOf (roomN D.ls.length) D.claim e q0 s txs).ref D.opE with safe := D.opE == 0 } : Lg) = ⟨roomN D.flushD.ls.length, D.flushD.claim, e, q0 + txs.length, nextP s txs, true, false⟩
    rw [hL.ls, hL.claim, view_len, h0]
    rfl
  · right
    exact ⟨h0, hS, hQ⟩
/-- Format: the sectors are read, up to the first that is not all zeros. -/
def zerosP : Nat → Nat → Dk → Dk × Int
  | 0, _, D => (D, 0)
  | k + 1, i, D =>
    if D.readE (i : Int) = 0 then
      if (D.readB (i : Int)).all (fun x => x == 0#8) then zerosP k (i + 1) (D.readD (i : Int))
      else (D.readD (i : Int), 116)
    else (D.readD (i : Int), D.readE (i : Int))
def superF (n : Nat) : Sec := secAt tagS 1 1 1 (superB n [])
def formatP (D : Dk) : Dk × Int := if (zerosP D.ls.length 0 D).2 = 0 then lastP (zerosP D.ls.length 0 D).1 1 (superF D.ls.length) else zerosP D.ls.length 0 D
theorem zs_all : Dk.zs.all (fun x => x == 0#8) = true := by
  simp only [Dk.zs, List.all_eq_true, List.mem_replicate]
  rintro x ⟨_, rfl⟩
  rfl
theorem getS_zs : getS Dk.zs = none := by
  unfold getS
  have h4 : (readS Dk.zs).tag = [0#8, 0#8, 0#8, 0#8] := by
    show Dk.zs.take 4 = _
    unfold Dk.zs
    rw [List.take_replicate]
    rfl
  have : (readS Dk.zs).may = false := by
    unfold Sec.may tagB
    rw [h4]
    rfl
  rw [this, if_neg (by simp)]
theorem getD_rep {n i : Nat} (h : i < n) : (List.replicate n Dk.zs).getD i [] = Dk.zs := by
  rw [List.getD, List.getElem?_replicate, if_pos h]
  rfl
theorem zerosP_new {n : Nat} : ∀ (k i : Nat) (D : Dk), Quiet D → D.ls = List.replicate n Dk.zs → D.ps = [] → i + k = n → (zerosP k i D).2 = 0 ∧ Sm k D (zerosP k i D).1 := by
  intro k
  induction k with
  | zero => intro i D _ _ _ _; exact ⟨rfl, Sm.refl D⟩
  | succ k ih =>
    intro i D q hl hp hi
    have hin : i < D.ls.length := by rw [hl, List.length_replicate]; omega
    have h0 := read_quiet hin q
    have hb : D.readB (i : Int) = Dk.zs := by
      rw [read_view hin h0]
      unfold view
      rw [hp, hl]
      exact getD_rep (by omega)
    have hs := sm_read D (i : Int)
    unfold zerosP
    rw [if_pos h0, hb, zs_all, if_pos rfl]
    obtain ⟨g1, g2⟩ := ih (i + 1) _ (hs.quiet q) (hs.ls.trans hl) (hs.ps.trans hp) (by omega)
    exact ⟨g1, (hs.trans g2).mono (by omega)⟩
theorem cont_rep {n i : Nat} : cont (List.replicate n Dk.zs) i = none := by
  unfold cont
  by_cases h : i < n
  · rw [getD_rep h]; exact getS_zs
  · rw [List.getD, List.getElem?_replicate, if_neg h]
    decide
structure Formed (n : Nat) (R : Dk × Int) : Prop where
  e : R.2 = 0
  quiet : Quiet R.1
  ps : R.1.ps = []
  len : R.1.ls.length = n
  claim : R.1.claim = 0
  tel : Tel R.1.ls 1 1 [] []
theorem formatP_new {n : Nat} (h32 : 32 ≤ n) (h8 : n ≤ 8192) : Formed n (formatP (Dk.new n)) := by
  have hl : (Dk.new n).ls.length = n := by simp [Dk.new]
  have hq : Quiet (Dk.new n) := ⟨rfl, rfl⟩
  obtain ⟨z1, z2⟩ := zerosP_new (n := n) n 0 (Dk.new n) hq rfl rfl (by omega)
  unfold formatP
  rw [hl, if_pos z1]
  generalize (zerosP n 0 (Dk.new n)).1 = D at *
  have hDl : D.ls = List.replicate n Dk.zs := z2.ls
  have hDp : D.ps = [] := z2.ps
  have hlen : D.ls.length = n := by rw [hDl, List.length_replicate]
  have hSm : (superF n).may = true := secAt_may mem_tags.1 (by decide) (by decide) (by decide) (by decide) (by decide) (by rw [super_len]; omega)
  have hL := lastP_inv (D := D) (a := 1) (S := superF n) (P := fun _ => True) (Q := fun _ => True) (by omega) hSm (fun _ _ => trivial) (fun _ _ _ => ⟨trivial, trivial⟩)
  obtain ⟨_, r2, r3, _, r5, r6⟩ := hL
  obtain ⟨q1, q2⟩ := r5 (z2.quiet hq)
  rcases r6 with r6 | ⟨f1, f2, _, f4⟩
  · omega
  · have hv : view D = List.replicate n Dk.zs := by unfold view; rw [hDp, hDl]; rfl
    rw [hv] at f4
    refine ⟨q2, q1, f2, r2.trans hlen, r3.trans (z2.claim.trans rfl), ?_⟩
    rw [f4]
    have hll : ((List.replicate n Dk.zs).set 1 (superF n).bytes).length = n := by simp
    have h1 : 1 < (List.replicate n Dk.zs).length := by simp; omega
    refine ⟨by omega, by omega, by decide, by decide, by decide, by decide, ?_, ?_, ?_, trivial, ?_, ?_⟩
    · rw [cont_set _ _ h1, if_pos rfl, hll]
      exact getS_bytes hSm
    · rw [hll]; unfold pcN roomN; simp; omega
    · intro i hi; simp [pcN] at hi
    · simp [pcN, txsLen]
    · intro i S hS hd
      rw [cont_set _ _ h1] at hS
      split at hS
      · rw [getS_bytes hSm] at hS
        cases hS
        exact ⟨by simp [superF, secAt], fun hc => absurd rfl hc⟩
      · rw [cont_rep] at hS
        cases hS
end Wl
end Go.Proofs.YthaiibfnjgfgjaaDoor
namespace Go.Proofs.YthaiibfnjgfgjaaDoor
namespace Wl
structure Acc where
  s : By
  txs : List By
def Acc.nil : Acc := ⟨[], []⟩
def Acc.with (A : Acc) (tx : By) : Acc := ⟨A.s, A.txs ++ [tx]⟩
/-- The device tells the account, by numbers of at most j. -/
def TelB (j : Nat) (A : Acc) (X : List By) : Prop := ∃ e q0, e ≤ j ∧ q0 + A.txs.length ≤ j ∧ Tel X e q0 A.s A.txs
theorem TelB.mono {i j : Nat} {A : Acc} {X : List By} (h : TelB i A X) (hij : i ≤ j) : TelB j A X := by
  obtain ⟨e, q0, h1, h2, h3⟩ := h
  exact ⟨e, q0, by omega, by omega, h3⟩
structure Tw where
  D : Dk
  l : Option Lg
  safe : Bool
  sure : Acc
  opn : Bool
  maybe : Acc
  told : Acc
/-- How the newest log stands. -/
def Stands (T : Tw) (j : Nat) : Prop := ∀ l, T.l = some l → if T.safe then T.opn = false ∧ ∃ e q0, e ≤ j ∧ q0 + T.sure.txs.length ≤ j ∧ Calm T.D l e q0 T.sure.s T.sure.txs
  else (∃ e q0, e ≤ j ∧ q0 + T.told.txs.length ≤ j ∧ Tel (view T.D) e q0 T.told.s T.told.txs ∧ l = lgOf (roomN T.D.ls.length) T.D.claim e q0 T.told.s T.told.txs)
structure TOk (T : Tw) (n j : Nat) : Prop where
  len : T.D.ls.length = n
  all : All (fun X => TelB j T.sure X ∨ (T.opn = true ∧ TelB j T.maybe X)) T.D
  stands : Stands T j
theorem Stands.mono {T : Tw} {i j : Nat} (h : Stands T i) (hij : i ≤ j) : Stands T j := by
  intro l hl
  have := h l hl
  split at this
  · rename_i hs
    rw [if_pos hs]
    obtain ⟨h1, e, q0, h2, h3, h4⟩ := this
    exact ⟨h1, e, q0, by omega, by omega, h4⟩
  · rename_i hs
    rw [if_neg hs]
    obtain ⟨e, q0, h2, h3, h4⟩ := this
    exact ⟨e, q0, by omega, by omega, h4⟩
theorem TOk.mono {T : Tw} {n i j : Nat} (h : TOk T n i) (hij : i ≤ j) : TOk T n j :=
  ⟨h.len, h.all.mono (fun _ _ hX => hX.imp (fun a => a.mono hij) (fun a => ⟨a.1, a.2.mono hij⟩)), h.stands.mono hij⟩
/-- A device that Format has made. -/
def Tw.begin (D : Dk) : Tw := ⟨D, none, false, .nil, false, .nil, .nil⟩
theorem TOk.begin {n : Nat} {R : Dk × Int} (h : Formed n R) : TOk (.begin R.1) n 1 := by
  refine ⟨h.len, fun X hX => Or.inl ?_, fun l hl => by cases hl⟩
  have hX' : Out R.1.ps R.1.ls X := hX
  rw [h.ps] at hX'
  rw [out_nil hX']
  exact ⟨1, 1, by omega, by simp [Tw.begin, Acc.nil], h.tel⟩
def Tw.opened (T : Tw) (R : Res) : Tw := if R.e = 0 then { T with D := R.D, l := some R.l, safe := false, told := ⟨R.s, R.txs⟩ } else { T with D := R.D, l := none, safe := false }
structure OpensOk (T : Tw) (n j : Nat) (R : Res) : Prop where
  ok : TOk (T.opened R) n j
  e : R.e = 0 ∨ R.e = 103 ∨ R.e = 104
  tells : R.e = 0 → (⟨R.s, R.txs⟩ : Acc) = T.sure ∨ (T.opn = true ∧ (⟨R.s, R.txs⟩ : Acc) = T.maybe)
  quiet : Quiet T.D → Quiet R.D ∧ R.e = 0
  done : R.D.done ≤ T.D.done + (2 + roomN n)
  claim : R.D.claim = T.D.claim + 1
  ls : R.D.ls = T.D.ls
  ps : R.D.ps = T.D.ps
theorem opens_ok {T : Tw} {n j : Nat} (h : TOk T n j) : OpensOk T n j (openP T.D) := by
  have hv := h.all.view
  have key : ∀ (A : Acc), TelB j A (view T.D) → (A = T.sure ∨ (T.opn = true ∧ A = T.maybe)) → OpensOk T n j (openP T.D) := by
    rintro A ⟨e, q0, he, hq, hT⟩ hA
    obtain ⟨o1, o2, o3, o4, o5, o6, o7⟩ := openP_tel hT
    generalize openP T.D = R at *
    have hsame : ∀ X, Out R.D.ps R.D.ls X → Out T.D.ps T.D.ls X := by rw [o1, o2]; exact fun _ hX => hX
    have hvR : view R.D = view T.D := by unfold view; rw [o1, o2]
    refine ⟨?_, ?_, ?_, o6, by rw [← h.len]; exact o5, o3, o1, o2⟩
    · refine ⟨?_, ?_, ?_⟩
      · unfold Tw.opened; split <;> exact (by show R.D.ls.length = n; rw [o1]; exact h.len)
      · unfold Tw.opened; split <;> exact fun X hX => h.all X (hsame X hX)
      · intro l hl
        unfold Tw.opened at hl ⊢
        rcases o7 with o7 | o7
        · rw [if_neg (by omega)] at hl
          cases hl
        · have he0 : R.e = 0 := by rw [o7]
          have hl0 : R.l = lgOf (roomN T.D.ls.length) (T.D.claim + 1) e q0 A.s A.txs := by rw [o7]
          have hs0 : R.s = A.s := by rw [o7]
          have ht0 : R.txs = A.txs := by rw [o7]
          rw [if_pos he0] at hl ⊢
          simp only [Bool.false_eq_true, if_false]
          cases hl
          refine ⟨e, q0, he, by rw [ht0]; exact hq, by rw [hvR, hs0, ht0]; exact hT, ?_⟩
          rw [hl0, o1, o3, hs0, ht0]
    · rcases o7 with o7 | o7
      · exact Or.inr o7
      · exact Or.inl (by rw [o7])
    · intro he0
      rcases o7 with o7 | o7
      · omega
      · rw [o7]
        exact hA
  rcases hv with hv | ⟨h1, hv⟩
  · exact key _ hv (Or.inl rfl)
  · exact key _ hv (Or.inr ⟨h1, rfl⟩)
/-- A Safe of the newest log, that is not safe yet. -/
def Tw.safed (T : Tw) (A : Ans) : Tw := if A.e = 0 then { T with D := A.D, l := some A.l, safe := true, sure := T.told, opn := false } else { T with D := A.D, l := none }
structure SafesOk (T : Tw) (n j : Nat) (A : Ans) : Prop where
  ok : TOk (T.safed A) n j
  e : A.e = 0 ∨ A.e = 103 ∨ A.e = 104
  quiet : Quiet T.D → Quiet A.D ∧ A.e = 0
  done : A.e = 0 → A.D.done = T.D.done + 1
  claim : A.D.claim = T.D.claim
theorem safes_ok {T : Tw} {n j : Nat} {l : Lg} (h : TOk T n j) (hl : T.l = some l) (hs : T.safe = false) : SafesOk T n j (safeP T.D l) := by
  have h1 := h.stands l hl
  rw [hs] at h1
  simp only [Bool.false_eq_true, if_false] at h1
  obtain ⟨e, q0, he, hq, hT, rfl⟩ := h1
  rcases safeP_law hT with ⟨g1, g2, g3⟩ | ⟨g1, g2, g3⟩
  · refine ⟨?_, Or.inl g1, fun z => ⟨g3.quiet z, g1⟩, fun _ => g3.done, g3.claim⟩
    unfold Tw.safed
    rw [if_pos g1]
    refine ⟨?_, ?_, ?_⟩
    · show (safeP T.D _).D.ls.length = n
      rw [g3.ls, view_len]
      exact h.len
    · exact g2.all.mono (fun X _ hX => Or.inl ⟨e, q0, he, hq, hX.2⟩)
    · intro l hl
      cases hl
      exact ⟨rfl, e, q0, he, hq, g2⟩
  · refine ⟨?_, Or.inr g1, fun z => absurd z g3, fun z => by omega, g2.claim⟩
    unfold Tw.safed
    rw [if_neg (by omega)]
    refine ⟨?_, ?_, fun l hl => by cases hl⟩
    · show (safeP T.D _).D.ls.length = n
      rw [g2.ls]
      exact h.len
    · exact h.all.sm g2
/-- A call of a safe log that would make the account A. -/
def Tw.settled (T : Tw) (A : Acc) (R : Ans) : Tw := if R.e = 0 then { T with D := R.D, l := some R.l, sure := A } else if R.e = 103 ∨ R.e = 104 then { T with D := R.D, l := none, maybe := A, opn := true } else { T with D := R.D, l := some R.l }
structure SettlesOk (T : Tw) (n j : Nat) (no : Int → Prop) (ops : Nat) (l : Lg) (A : Acc) (R : Ans) : Prop where
  ok : TOk (T.settled A R) n (j + 1)
  e : R.e = 0 ∨ R.e = 103 ∨ R.e = 104 ∨ R.e = 111 ∨ R.e = 112
  quiet : Quiet T.D → Quiet R.D ∧ R.e ≠ 103 ∧ R.e ≠ 104
  claim : R.D.claim = T.D.claim
  okNo : R.e = 0 → (∀ z, ¬ no z) ∧ R.D.done = T.D.done + ops ∧ R.l.claim = R.D.claim
  noOk : R.e = 111 ∨ R.e = 112 → no R.e ∧ R.D = T.D ∧ R.l = l
theorem settles_of {T : Tw} {n j : Nat} {l : Lg} {no : Int → Prop} {ops e q0 e' q0' : Nat} {A : Acc} {R : Ans} (h : TOk T n j) (hl : T.l = some l) (hs : T.safe = true) (he : e ≤ j) (hq : q0 + T.sure.txs.length ≤ j) (hop : T.opn = false) (_hC : Calm T.D l e q0 T.sure.s T.sure.txs)
    (he' : e' ≤ j + 1) (hq' : q0' + A.txs.length ≤ j + 1) (hno : ∀ z, no z → z = 111 ∨ z = 112) (c : Called T.D l e q0 T.sure.s T.sure.txs no ops e' q0' A.s A.txs R) : SettlesOk T n j no ops l A R := by
  obtain ⟨c1, c2, c3, c4, c5⟩ := c
  have hn := h.len
  rcases c5 with ⟨g1, g2, g3⟩ | ⟨g1, g2⟩ | ⟨g1, g2, g3, g4⟩
  · have hD : R.D = T.D := by rw [g1]
    have hL : R.l = l := by rw [g1]
    have hz := hno _ g3
    refine ⟨?_, by omega, fun z => ⟨by rw [hD]; exact z, by omega, by omega⟩, by rw [hD], fun z => absurd z g2, fun _ => ⟨g3, hD, hL⟩⟩
    unfold Tw.settled
    rw [if_neg g2, if_neg (by omega), hD, hL]
    have hT : ({ T with D := T.D, l := some l } : Tw) = T := by rw [← hl]
    rw [hT]
    exact h.mono (by omega)
  · refine ⟨?_, by omega, c4, c2, fun z => by omega, fun z => by omega⟩
    unfold Tw.settled
    rw [if_neg (by omega), if_pos g1]
    refine ⟨by show R.D.ls.length = n; rw [c1]; exact hn, ?_, fun l hl => by cases hl⟩
    refine g2.mono (fun X _ hX => ?_)
    rcases hX.2 with hX | hX
    · exact Or.inl ⟨e, q0, by omega, by show q0 + T.sure.txs.length ≤ j + 1; omega, hX⟩
    · exact Or.inr ⟨rfl, e', q0', he', hq', hX⟩
  · refine ⟨?_, Or.inl g1, c4, c2, fun _ => ⟨g2, g4, by rw [g3.lg]⟩, fun z => by omega⟩
    unfold Tw.settled
    rw [if_pos g1]
    refine ⟨by show R.D.ls.length = n; rw [c1]; exact hn, ?_, ?_⟩
    · exact g3.all.mono (fun X _ hX => Or.inl ⟨e', q0', he', hq', hX.2⟩)
    · intro m hm
      cases hm
      show if T.safe = true then _ else _
      rw [hs]
      exact ⟨hop, e', q0', he', hq', g3⟩
theorem append_ok {T : Tw} {n j : Nat} {l : Lg} (h : TOk T n j) (hl : T.l = some l) (hs : T.safe = true) (hj : j ≤ 1000000) (tx : By) : SettlesOk T n j (noAppend l tx.length) (if 1 < needN tx.length then needN tx.length + 2 else 2) l (T.sure.with tx) (appendP T.D l tx) := by
  have h1 := h.stands l hl
  rw [hs] at h1
  simp only [if_true] at h1
  obtain ⟨hop, e, q0, he, hq, hC⟩ := h1
  refine settles_of h hl hs he hq hop hC (by omega) (by show q0 + (T.sure.txs ++ [tx]).length ≤ j + 1; simp; omega) ?_ (appendP_law hC tx (by unfold mq; omega))
  rintro z (⟨_, rfl⟩ | ⟨_, _, rfl⟩)
  · exact Or.inl rfl
  · exact Or.inr rfl
theorem check_ok {T : Tw} {n j : Nat} {l : Lg} (h : TOk T n j) (hl : T.l = some l) (hs : T.safe = true) (hj : j ≤ 1000000) (t : By) : SettlesOk T n j (noCheck l t.length) (pcN t.length + 3) l ⟨t, []⟩ (checkP T.D l t) := by
  have h1 := h.stands l hl
  rw [hs] at h1
  simp only [if_true] at h1
  obtain ⟨hop, e, q0, he, hq, hC⟩ := h1
  refine settles_of h hl hs he hq hop hC (by omega) (by show q0 + T.sure.txs.length + ([] : List By).length ≤ j + 1; simp; omega) ?_ (checkP_law hC t (by unfold mq; omega) (by unfold mq; omega))
  rintro z ⟨_, rfl⟩
  exact Or.inr rfl
/-- A log that is not safe refuses, and does nothing. -/
theorem unsafe_ok {T : Tw} {n j : Nat} {l : Lg} (h : TOk T n j) (hl : T.l = some l) (hs : T.safe = false) (tx : By) : appendP T.D l tx = ⟨T.D, l, 115⟩ ∧ checkP T.D l tx = ⟨T.D, l, 115⟩ := by
  have h1 := h.stands l hl
  rw [hs] at h1
  simp only [Bool.false_eq_true, if_false] at h1
  obtain ⟨e, q0, _, _, _, rfl⟩ := h1
  have hE : ∀ k, appendE T.D (lgOf (roomN T.D.ls.length) T.D.claim e q0 T.told.s T.told.txs) k = 115 := fun k => by unfold appendE; rw [if_pos (by simp [lgOf])]
  have hC : ∀ k, checkE T.D (lgOf (roomN T.D.ls.length) T.D.claim e q0 T.told.s T.told.txs) k = 115 := fun k => by unfold checkE; rw [if_pos (by simp [lgOf])]
  unfold appendP checkP
  rw [hE, hC, if_neg (by decide), if_neg (by decide)]
  exact ⟨rfl, rfl⟩
/-- A Crash; no log is asked behind it. -/
theorem crash_ok {T : Tw} {n j : Nat} (h : TOk T n j) (keep : List Bool) : TOk { T with D := T.D.crashD keep, l := none } n j :=
  ⟨by show (T.D.crashD keep).ls.length = n; unfold Dk.crashD; simp only [Dk.layK_len]; exact h.len, h.all.crash keep, fun l hl => by cases hl⟩
theorem arm_same (D : Dk) (fs : List (Int × Int)) : (D.armD fs).ls = D.ls ∧ (D.armD fs).ps = D.ps ∧ (D.armD fs).claim = D.claim := by
  unfold Dk.armD
  split <;> exact ⟨rfl, rfl, rfl⟩
theorem arm_ok {T : Tw} {n j : Nat} (h : TOk T n j) (fs : List (Int × Int)) : TOk { T with D := T.D.armD fs } n j := by
  obtain ⟨a1, a2, a3⟩ := arm_same T.D fs
  refine ⟨by show (T.D.armD fs).ls.length = n; rw [a1]; exact h.len, fun X hX => h.all X (by have hX' : Out (T.D.armD fs).ps (T.D.armD fs).ls X := hX; rwa [a1, a2] at hX'), fun l hl => ?_⟩
  have := h.stands l hl
  have hv : view (T.D.armD fs) = view T.D := by unfold view; rw [a1, a2]
  show if T.safe = true then T.opn = false ∧ ∃ e q0, e ≤ j ∧ q0 + T.sure.txs.length ≤ j ∧ Calm (T.D.armD fs) l e q0 T.sure.s T.sure.txs else ∃ e q0, e ≤ j ∧ q0 + T.told.txs.length ≤ j ∧ Tel (view (T.D.armD fs)) e q0 T.told.s T.told.txs ∧ l = lgOf (roomN (T.D.armD fs).ls.length) (T.D.armD fs).claim e q0 T.told.s T.told.txs
  rw [hv, a1, a3]
  split at this
  · rename_i hs
    rw [if_pos hs]
    obtain ⟨h1, e, q0, h2, h3, h4⟩ := this
    exact ⟨h1, e, q0, h2, h3, by rw [a2]; exact h4.ps, by rw [a1]; exact h4.tel, by rw [a1, a3]; exact h4.lg⟩
  · rename_i hs
    rw [if_neg hs]
    exact this
end Wl
end Go.Proofs.YthaiibfnjgfgjaaDoor
