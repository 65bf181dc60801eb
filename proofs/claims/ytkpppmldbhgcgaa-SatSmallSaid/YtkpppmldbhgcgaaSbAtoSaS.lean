/- Sat: the solver as plain functions; where the program would stop none is told. -/
import Derived.Test.YtkpppmldbhgcgaaSaKtoSaF
set_option linter.unusedVariables false
set_option linter.unusedSimpArgs false
set_option autoImplicit false
set_option linter.unusedVariables false
set_option linter.unusedSimpArgs false
namespace Go.Proofs.Ytkpppmldbhgcgaa
open Go Go.RowKit
/-- no row is longer -/
def roomy (k : Nat) : Bool := decide (k < 100000000)
def guardO (b : Bool) : Option Unit := if b then some () else none
/-- what a literal is -/
def litO (S : Sz) (x : Int) : Option Int := (S.vals[x.natAbs]?).bind fun y => some (if x < 0 then -y else y)
/-- heap.Pop -/
def hpopO (S : Sz) : Option (Int × Sz) :=
  if S.ov.length = 0 then none else
    let T := (downZ (swapZ S 0 (S.ov.length - 1)) 0 (S.ov.length - 1)).1
    some (T.ov.getD (T.ov.length - 1) 0, popZ T)
/-- heap.Push -/
def hpushO (S : Sz) (v : Nat) : Option Sz := if v < S.pl.length ∧ S.ov.length < S.pl.length then some (upZ (pushZ S v) S.ov.length) else none
/-- heap.Fix -/
def fixZ (S : Sz) (i : Nat) : Sz := if i < (downZ S i S.ov.length).2 then (downZ S i S.ov.length).1 else upZ (downZ S i S.ov.length).1 i
/-- a clause watched by one literal more -/
def addO (S : Sz) (l : Int) (c : Nat) : Option Sz :=
  (S.cls[c]?).bind fun _ => (S.watch[codeZ l]?).bind fun ws => if roomy ws.length ∧ l.natAbs ≤ 1000000 then some { S with watch := S.watch.set (codeZ l) (ws ++ [c]) } else none
/-- a clause is put -/
def putO (S : Sz) (c : Nat) : Option Sz :=
  (S.cls[c]?).bind fun z => (z.lits[0]?).bind fun a => (z.lits[1]?).bind fun b =>
    if roomy S.all.length then (addO { S with all := S.all ++ [c] } a c).bind fun S1 => addO S1 b c else none
/-- a literal is made true -/
def letS (S : Sz) (l : Int) (rn : Option Nat) : Sz :=
  { S with vals := S.vals.set l.natAbs (if l < 0 then -1 else 1), lev := S.lev.set l.natAbs S.st.length, rea := S.rea.set l.natAbs rn, tr := S.tr ++ [l] }
def letO (S : Sz) (l : Int) (rn : Option Nat) : Option (Bool × Sz) :=
  (litO S l).bind fun v => if v = 1 then some (true, S) else if v = -1 then some (false, S) else if roomy S.tr.length ∧ roomy S.st.length then some (true, letS S l rn) else none
/-- a clause's literals are turned -/
def setLits (S : Sz) (c : Nat) (z : Cz) (l : List Int) : Sz := { S with cls := S.cls.set c { z with lits := l } }
/-- is there another literal to watch? (p: a row that stays as it is) -/
def movesF : Nat → Sz → Nat → Cz → Nat → Nat → Option (Bool × Sz)
  | 0, _, _, _, _, _ => none
  | f + 1, S, c, z, p, k =>
    if k < z.lits.length then
      (z.lits[k]?).bind fun x => (litO S x).bind fun v =>
        if v = -1 then movesF f S c z p (k + 1)
        else if codeZ x = p then none
        else (addO (setLits S c z (swapV z.lits 1 k)) x c).bind fun S1 => some (true, S1)
    else some (false, S)
def movesO (S : Sz) (c : Nat) (p : Nat) : Option (Bool × Sz) :=
  (S.cls[c]?).bind fun z => if 2 ≤ z.lits.length ∧ roomy z.lits.length then movesF (z.lits.length) S c z p 2 else none
/-- a watched row, turned at one place -/
def setW (S : Sz) (p : Nat) (j : Nat) (c : Nat) : Sz := { S with watch := S.watch.set p ((S.watch.getD p []).set j c) }
/-- a clause is looked at: none: it is let go or another literal watches it; else the literal that it makes true -/
def visitO (S : Sz) (l : Int) (c : Nat) : Option (Option Int × Sz) :=
  (S.cls[c]?).bind fun z =>
    if z.gone then some (none, S) else
    (z.lits[0]?).bind fun a => (z.lits[1]?).bind fun b =>
      let S1 := if a = l then setLits S c z (swapV z.lits 0 1) else S
      let a1 := if a = l then b else a
      (litO S1 a1).bind fun v =>
        if v = 1 then some (some a1, S1) else
          (movesO S1 c (codeZ l)).bind fun r => if r.1 then some (none, r.2) else some (some a1, r.2)
/-- the clauses that watch a literal, from the k-th on; j are kept so far -/
def rowF : Nat → Sz → Int → Nat → Nat → Option (Option Nat × Sz)
  | 0, _, _, _, _ => none
  | f + 1, S, l, k, j =>
    if k < (S.watch.getD (codeZ l) []).length then
      ((S.watch.getD (codeZ l) [])[k]?).bind fun c => (visitO S l c).bind fun r =>
        match r.1 with
        | none => rowF f r.2 l (k + 1) j
        | some a => (letO (setW r.2 (codeZ l) j c) a (some c)).bind fun q =>
          if q.1 then rowF f q.2 l (k + 1) (j + 1)
          else if ((q.2.watch.getD (codeZ l) []).drop (k + 1)).all (fun i => decide (i < q.2.cls.length)) then
            some (some c, { q.2 with watch := q.2.watch.set (codeZ l) ((q.2.watch.getD (codeZ l) []).take (j + 1) ++ (q.2.watch.getD (codeZ l) []).drop (k + 1)) })
          else none
    else some (none, { S with watch := S.watch.set (codeZ l) ((S.watch.getD (codeZ l) []).take j) })
def spreadF : Nat → Sz → Option (Option Nat × Sz)
  | 0, _ => none
  | f + 1, S =>
    if S.at' < S.tr.length then
      if S.at' < 0 then none else
      (S.tr[S.at'.toNat]?).bind fun x =>
        (S.watch[codeZ (-x)]?).bind fun ws =>
          if x.natAbs ≤ 1000000 ∧ roomy ws.length ∧ roomy S.tr.length then
          (rowF (ws.length + 1) { S with at' := S.at' + 1 } (-x) 0 0).bind fun r =>
            match r.1 with
            | some c => some (some c, r.2)
            | none => spreadF f r.2
          else none
    else some (none, S)
def spreadO (S : Sz) : Option (Option Nat × Sz) := spreadF (S.vals.length + 1) S
/-- a variable's literal is taken back -/
def backV (S : Sz) (l : Int) : Option Sz :=
  (S.vals[l.natAbs]?).bind fun _ => (S.pl[l.natAbs]?).bind fun p =>
    let S1 := { S with sav := S.sav.set l.natAbs (decide (0 < l)), vals := S.vals.set l.natAbs 0, rea := S.rea.set l.natAbs none }
    if p < 0 then hpushO S1 l.natAbs else some S1
def backL : List Int → Sz → Option Sz
  | [], S => some S
  | l :: r, S => (backV S l).bind (backL r)
def backO (S : Sz) (level : Nat) : Option Sz :=
  if S.st.length ≤ level then some S else
    (S.st[level]?).bind fun fr =>
      if 0 ≤ fr ∧ fr < S.tr.length then
        (backL (S.tr.drop fr.toNat) S).bind fun S1 => some { S1 with tr := S1.tr.take fr.toNat, st := S1.st.take level, at' := fr }
      else none
/-- 1e100, 1e-100, 0.95 -/
def c100 : Nat := 6103021453049119613
def cm100 : Nat := 3110860544497550640
def c95 : Nat := 4606732058837280358
def raiseS (S : Sz) (v : Nat) (s : Nat) : Sz :=
  if FloatKind.f64.format.order (fAdd s S.bump) c100 == some .gt then { S with sc := (S.sc.set v (fAdd s S.bump)).map (fun x => fMul x cm100), bump := fMul S.bump cm100 } else { S with sc := S.sc.set v (fAdd s S.bump) }
def raiseO (S : Sz) (v : Nat) : Option Sz :=
  (S.sc[v]?).bind fun s => (S.pl[v]?).bind fun p =>
    if 0 ≤ p then (if p.toNat < S.ov.length then some (fixZ (raiseS S v s) p.toNat) else none) else some (raiseS S v s)
/-- a conflict's clause, literal by literal -/
def learnL : List Int → Sz → Int → List Int → Int → Option (Sz × List Int × Int)
  | [], S, _, out, op => some (S, out, op)
  | l :: r, S, first, out, op =>
    if l = first then learnL r S first out op else
    (S.seen[l.natAbs]?).bind fun s => (S.lev[l.natAbs]?).bind fun d =>
      if s || d == 0 then learnL r S first out op else
      (raiseO { S with seen := S.seen.set l.natAbs true } l.natAbs).bind fun S1 =>
        if d = S.st.length then (if roomy op.toNat then learnL r S1 first out (op + 1) else none)
        else (if roomy out.length then learnL r S1 first (out ++ [l]) op else none)
/-- the last literal of the trail, from one on, that is seen -/
def scanO (S : Sz) : Nat → Option (Nat × Int)
  | 0 => none
  | k + 1 => (S.tr[k]?).bind fun x => (S.seen[x.natAbs]?).bind fun s => if s then some (k, x) else scanO S k
def learnF : Nat → Sz → Nat → Int → List Int → Int → Nat → Option (Sz × List Int × Int)
  | 0, _, _, _, _, _, _ => none
  | f + 1, S, c, first, out, op, e =>
    (S.cls[c]?).bind fun z =>
      if -1000000000 ≤ z.use ∧ z.use ≤ 1000000000 ∧ roomy z.lits.length then
      (learnL z.lits { S with cls := S.cls.set c { z with use := z.use + 1 } } first out op).bind fun r =>
        if 0 < r.2.2 ∧ r.2.2 ≤ 1000000000 then
        (scanO r.1 e).bind fun q =>
          let S1 := { r.1 with seen := r.1.seen.set q.2.natAbs false }
          if r.2.2 - 1 = 0 then some (S1, r.2.1, q.2) else
            ((S1.rea[q.2.natAbs]?).bind fun x => x).bind fun c1 => learnF f S1 c1 q.2 r.2.1 (r.2.2 - 1) q.1
        else none
      else none
/-- the level to go back to, and where the literal of it stands -/
def levL : List Int → Sz → Nat → Int → Nat → Option (Sz × Int × Nat)
  | [], S, _, lv, sec => some (S, lv, sec)
  | l :: r, S, i, lv, sec =>
    (S.seen[l.natAbs]?).bind fun _ => (S.lev[l.natAbs]?).bind fun n =>
      let S1 := { S with seen := S.seen.set l.natAbs false }
      if lv < n then levL r S1 (i + 1) n (i + 1) else levL r S1 (i + 1) lv sec
def learnO (S : Sz) (c : Nat) : Option (Sz × List Int × Int) :=
  (learnF (S.tr.length + 1) S c 0 [0] 0 S.tr.length).bind fun r =>
    if roomy r.2.1.length then
    (levL (r.2.1.drop 1) r.1 0 0 0).bind fun q =>
      let out := r.2.1.set 0 (-r.2.2)
      some ({ q.1 with bump := fDiv q.1.bump c95 }, if 0 < q.2.2 then swapV out 1 q.2.2 else out, q.2.1)
    else none
/-- a line of the proof -/
def logO (S : Sz) (l : List Int) (g : Bool) : Option (Bool × Sz) :=
  if 0 ≤ S.nl ∧ S.nl ≤ 100000000 ∧ roomy l.length ∧ roomy S.prf.length then
    (if 200000 < S.nl + (l.length + 1) then some (false, { S with nl := S.nl + (l.length + 1) })
    else some (true, { S with nl := S.nl + (l.length + 1), prf := S.prf ++ [(g, l)] }))
  else none
/-- the next variable -/
def decideF : Nat → Sz → Option (Int × Sz)
  | 0, _ => none
  | f + 1, S =>
    if S.ov.length = 0 then some (0, S) else
      (hpopO S).bind fun r => (r.2.vals[r.1.toNat]?).bind fun v => if v = 0 then some (r.1, r.2) else decideF f r.2
def decideO (S : Sz) : Option (Int × Sz) := decideF (S.ov.length + 1) S
/-- the search: 1 found, 2 none, 3 given up -/
def searchF : Nat → Sz → Int → Int → Int → Int → Option (Int × Sz)
  | 0, _, _, _, _, _ => none
  | f + 1, S, budget, conf, limit, left =>
    (spreadO S).bind fun r =>
      match r.1 with
      | some c =>
        if r.2.st.length = 0 then some (2, r.2) else
        if budget < conf + 1 then some (3, r.2) else
        (learnO r.2 c).bind fun q => (logO q.1 q.2.1 false).bind fun p =>
          if p.1 then
            (backO p.2 q.2.2.toNat).bind fun S4 => (q.2.1[0]?).bind fun a =>
              if q.2.1.length = 1 then (letO S4 a none).bind fun t => searchF f t.2 budget (conf + 1) limit (left - 1)
              else (putO { S4 with cls := S4.cls ++ [⟨q.2.1, true, false, 1⟩] } S4.cls.length).bind fun S6 =>
                (letO { S6 with learned := S6.learned + 1 } a (some S4.cls.length)).bind fun t => searchF f t.2 budget (conf + 1) limit (left - 1)
          else some (3, p.2)
      | none =>
        if left ≤ 0 then
          (backO r.2 0).bind fun S4 => if S4.learned ≤ 2000 then searchF f S4 budget conf (limit + limit / 4) (limit + limit / 4) else none
        else
          (decideO r.2).bind fun q =>
            if q.1 = 0 then some (1, q.2) else
            (q.2.sav[q.1.toNat]?).bind fun sv =>
              (letO { q.2 with st := q.2.st ++ [(q.2.tr.length : Int)] } (if sv then q.1 else -q.1) none).bind fun t => searchF f t.2 budget conf limit left
def empty0 (vars : Int) (n : Nat) : Sz :=
  { vars := vars, ov := [], pl := List.replicate n 0, sc := List.replicate n 0, cls := [], all := [], watch := List.replicate (2 * n) [], vals := List.replicate n 0, lev := List.replicate n 0, rea := List.replicate n none,
    sav := List.replicate n false, tr := [], st := [], at' := 0, bump := 4607182418800017408, prf := [], nl := 0, seen := List.replicate n false, learned := 0 }
def madeV : Nat → Sz → Option Sz
  | 0, S => some S
  | f + 1, S => (madeV f S).bind fun S1 => hpushO { S1 with pl := S1.pl.set (f + 1) (-1) } (f + 1)
/-- a clause of the formula, sorted and without repeats -/
def dedup : List Int → List Int
  | [] => []
  | [a] => [a]
  | a :: b :: l => if a = b then dedup (b :: l) else a :: dedup (b :: l)
def normZ (c : List Int) : List Int := dedup (c.mergeSort (fun a b => decide (a ≤ b)))
def madeC : List (List Int) → Bool → Sz → Option (Bool × Sz)
  | [], ok, S => some (ok, S)
  | c :: r, ok, S =>
    let l := normZ c
    if l.any (fun x => l.contains (-x)) then madeC r ok S else
    match l with
    | [] => madeC r false S
    | [a] => if ok then (letO S a none).bind fun q => madeC r q.1 q.2 else madeC r false S
    | a :: b :: l' => (putO { S with cls := S.cls ++ [⟨a :: b :: l', false, false, 0⟩] } S.cls.length).bind fun S1 => madeC r ok S1
def madeO (vars : Nat) (cs : List (List Int)) : Option (Bool × Sz) := (madeV vars (empty0 vars (vars + 1))).bind fun S => madeC cs true S
structure Ans where
  what : Int
  model : List Bool
  proof : List (Bool × List Int)
deriving Repr, DecidableEq
def solveF (f : Nat) (vars : Nat) (cs : List (List Int)) (budget : Int) : Option Ans :=
  (madeO vars cs).bind fun r =>
    (if r.1 then searchF f r.2 (max 0 budget) 0 100 100 else some (2, r.2)).bind fun q =>
      if q.1 = 3 then some ⟨3, [], []⟩ else
      if q.1 = 1 then some ⟨1, (List.range (vars + 1)).map fun v => v != 0 && decide (q.2.vals.getD v 0 = 1), []⟩ else
      (logO q.2 [] false).bind fun p => if p.1 then some ⟨2, [], p.2.prf⟩ else some ⟨3, [], []⟩
end Go.Proofs.Ytkpppmldbhgcgaa
/- Sat: the heap: Pop and Fix. -/
set_option autoImplicit false
set_option linter.unusedVariables false
set_option linter.unusedSimpArgs false
namespace Go.Proofs.Ytkpppmldbhgcgaa
open Go Go.RowKit
variable {lo n : Nat} {w : World} {own : Nat → Option Tg} {rv : Tg → Value} {S : Sz}
theorem downF_ok : ∀ (f : Nat) {S : Sz} (i m : Nat), OrdOK n S → i < S.ov.length → m ≤ S.ov.length → OrdOK n (downF f S i m).1 ∧ (downF f S i m).1.ov.length = S.ov.length
  | 0, S, i, m, h, _, _ => ⟨h, rfl⟩
  | f + 1, S, i, m, h, hi, hm => by
    unfold downF
    split
    · exact ⟨h, rfl⟩
    · rename_i hst
      split
      · have k1 := kid_lt (S := S) hst
        have hk : kid S i m < S.ov.length := by omega
        have := downF_ok f (S := swapZ S i (kid S i m)) (kid S i m) m (swap_ok h hi hk) (by rw [swap_len]; exact hk) (by rw [swap_len]; exact hm)
        rw [swap_len] at this
        exact this
      · exact ⟨h, rfl⟩
theorem down_ok {i m : Nat} (h : OrdOK n S) (hi : i < S.ov.length) (hm : m ≤ S.ov.length) : OrdOK n (downZ S i m).1 ∧ (downZ S i m).1.ov.length = S.ov.length := downF_ok _ i m h hi hm
theorem upF_ok : ∀ (f : Nat) {S : Sz} (i : Nat), OrdOK n S → i < S.ov.length → OrdOK n (upF f S i) ∧ (upF f S i).ov.length = S.ov.length
  | 0, S, i, h, _ => ⟨h, rfl⟩
  | f + 1, S, i, h, hi => by
    unfold upF
    split
    · exact ⟨h, rfl⟩
    · split
      · have hk : (i - 1) / 2 < S.ov.length := by omega
        have := upF_ok f (S := swapZ S ((i - 1) / 2) i) ((i - 1) / 2) (swap_ok h hk hi) (by rw [swap_len]; exact hk)
        rw [swap_len] at this
        exact this
      · exact ⟨h, rfl⟩
theorem up_ok {i : Nat} (h : OrdOK n S) (hi : i < S.ov.length) : OrdOK n (upZ S i) ∧ (upZ S i).ov.length = S.ov.length := upF_ok _ i h hi
theorem pop_ok (ho : OrdOK n S) : OrdOK n (popZ S) := by
  refine ⟨ho.big, ho.sc, ?_, fun k hk => ?_, ?_⟩
  · show (S.pl.set _ _).length = n
    rw [List.length_set]; exact ho.pl
  · have hk : k < (S.ov.take (S.ov.length - 1)).length := hk
    rw [List.length_take] at hk
    show 0 ≤ (S.ov.take (S.ov.length - 1)).getD k 0 ∧ (S.ov.take (S.ov.length - 1)).getD k 0 < n
    rw [List.getD_eq_getElem?_getD, List.getElem?_take, if_pos (by omega), ← List.getD_eq_getElem?_getD]
    exact ho.ov k (by omega)
  · have := ho.ovl
    show (S.ov.take (S.ov.length - 1)).length ≤ n
    rw [List.length_take]; omega
theorem fix_ok {i : Nat} (h : OrdOK n S) (hi : i < S.ov.length) : OrdOK n (fixZ S i) := by
  have hd := down_ok h hi (Nat.le_refl _)
  unfold fixZ
  split
  · exact hd.1
  · exact (up_ok hd.1 (by rw [hd.2]; exact hi)).1
set_option maxHeartbeats 8000000 in
set_option maxRecDepth 1000000 in
theorem fix_walk (h : Sol lo w own rv S) (ho : OrdOK n S) (i : Nat) (hi : i < S.ov.length) : Calls Try.prog 69 #[.iface 69 (rv .x), .int .i64 i] w fun e w' => e = .returned (.tuple #[]) ∧ Sol lo w' own rv (fixZ S i) ∧ Frm own own w w' := by
  obtain ⟨b, hb, _, _, _⟩ := h.xb
  have m1 := m_len b
  have hlw := len_walk h ho
  have hdw := down_walk h ho i S.ov.length hi (Nat.le_refl _)
  have hd := down_ok ho hi (Nat.le_refl _)
  have hF : ∀ w1 : World, Sol lo w1 own rv (downZ S i S.ov.length).1 → Calls Try.prog 40 #[.iface 69 (rv .x), .int .i64 i] w1 fun e w' => e = .returned (.tuple #[]) ∧ Sol lo w' own rv (upZ (downZ S i S.ov.length).1 i) ∧ Frm own own w1 w' := fun w1 hs => up_walk hs hd.1 i (by rw [hd.2]; exact hi)
  have hE : Hid' (fixZ S i = if i < (downZ S i S.ov.length).2 then (downZ S i S.ov.length).1 else upZ (downZ S i S.ov.length).1 i) := ⟨rfl⟩
  have hbig := ho.big
  have hovl := ho.ovl
  rw [hb] at hlw hdw hF ⊢
  obtain ⟨L, hL⟩ : ∃ L, S.ov.length = L := ⟨_, rfl⟩
  rw [hL] at hlw hdw hF hE hi hovl
  obtain ⟨D, hD⟩ : ∃ D, downZ S i L = D := ⟨_, rfl⟩
  rw [hD] at hdw hF hE
  clear hd hL hD
  obtain ⟨j, hj⟩ : ∃ j, D.2 = j := ⟨_, rfl⟩
  rw [hj] at hdw hE
  clear hj
  by_cases hij : (i : Int) < j
  · have hE' : fixZ S i = D.1 := by rw [hE.h, if_pos (by omega)]
    rw [hE', decide_eq_true hij] at *
    clear hE hE'
    go_enter Try.func69, Try.ntmps69
    go_wp2_with (first | (go_at_call 53; refine hlw.mono ?_; rintro e w2 ⟨p1, p2⟩; rw [p1, p2]; clear p1 p2) | (go_at_call 70; refine hdw.mono ?_; rintro e w3 ⟨p1, p2, p3⟩; rw [p1]; clear p1))
    go_end0
    exact ⟨rfl, p2, p3⟩
  · have hE' : fixZ S i = upZ D.1 i := by rw [hE.h, if_neg (by omega)]
    rw [hE', decide_eq_false hij] at *
    clear hE hE'
    go_enter Try.func69, Try.ntmps69
    go_wp2_with (first | (go_at_call 53; refine hlw.mono ?_; rintro e w2 ⟨p1, p2⟩; rw [p1, p2]; clear p1 p2) | (go_at_call 70; refine hdw.mono ?_; rintro e w3 ⟨p1, p2, p3⟩; rw [p1]; clear p1) | (go_at_call 40; refine (hF _ p2).mono ?_; rintro e w4 ⟨p1, p4, p5⟩; rw [p1]; clear p1))
    go_end0
    exact ⟨rfl, p4, p3.trans p5⟩
set_option maxHeartbeats 8000000 in
set_option maxRecDepth 1000000 in
theorem hpop_walk (h : Sol lo w own rv S) (ho : OrdOK n S) {r : Int × Sz} (hp : hpopO S = some r) : Calls Try.prog 54 #[.iface 69 (rv .x)] w fun e w' => e = .returned (.iface 3 (.int .i64 r.1)) ∧ (∃ v', Sol lo w' own (upd rv .ov v') r.2) ∧ Frm own own w w' := by
  obtain ⟨b, hb, _, _, _⟩ := h.xb
  have m1 := m_len b
  have m2 := m_swap b
  have m3 := m_pop b
  unfold hpopO at hp
  obtain ⟨L, hL⟩ : ∃ L, S.ov.length = L + 1 := by
    split at hp
    · cases hp
    · exact ⟨S.ov.length - 1, by omega⟩
  rw [if_neg (by omega), hL, Nat.add_sub_cancel] at hp
  cases hp
  have hlw := len_walk h ho
  have hsw := swap_walk h ho 0 L (by omega) (by omega)
  have ho1 := swap_ok ho (i := 0) (j := L) (by omega) (by omega)
  have hl1 := swap_len S 0 L
  have hd := down_ok ho1 (i := 0) (m := L) (by omega) (by omega)
  have hdw : ∀ w1 : World, Sol lo w1 own rv (swapZ S 0 L) → Calls Try.prog 70 #[.iface 69 (rv .x), .int .i64 0, .int .i64 L] w1 fun e w' => (∃ q, e = .returned (.bool q)) ∧ Sol lo w' own rv (downZ (swapZ S 0 L) 0 L).1 ∧ Frm own own w1 w' := fun w1 hs => (down_walk hs ho1 0 L (by omega) (by omega)).mono fun e w' p => ⟨⟨_, p.1⟩, p.2⟩
  have hpw : ∀ w1 : World, Sol lo w1 own rv (downZ (swapZ S 0 L) 0 L).1 → _ := fun w1 hs => opop_walk hs hd.1 (by omega)
  have hbig := ho.big
  have hovl := ho.ovl
  rw [hb] at hlw hsw hdw hpw ⊢
  rw [hL] at hlw hovl
  obtain ⟨D, hD⟩ : ∃ D, (downZ (swapZ S 0 L) 0 L).1 = D := ⟨_, rfl⟩
  rw [hD] at hdw hpw ⊢
  have ht : (((L + 1 : Nat) : Int)) - 1 = L := by omega
  clear hd hl1 ho1 hL hD
  go_enter Try.func54, Try.ntmps54
  go_wp2_with (first | (go_at_call 53; refine hlw.mono ?_; rintro e w2 ⟨p1, p2⟩; rw [p1, p2]; clear p1 p2) | (go_at_call 96; refine hsw.mono ?_; rintro e w3 ⟨p1, p2, p3⟩; rw [p1]; clear p1) | (go_at_call 70; refine (hdw _ p2).mono ?_; rintro e w4 ⟨⟨q, p1⟩, p4, p5⟩; rw [p1]; clear p1) | (go_at_call 94; refine (hpw _ p4).mono ?_; rintro e w5 ⟨p1, p6, p7⟩; rw [p1]; clear p1))
  go_ret
  exact ⟨rfl, p6, (p3.trans p5).trans p7⟩
end Go.Proofs.Ytkpppmldbhgcgaa
