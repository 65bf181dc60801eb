/- Drat: the program, which slots are kept. -/
import Derived.Test.YtagfnjpjmmleiaaDoorE8
import Derived.Test.YtagfnjpjmmleiaaDoorProg
import Derived.Test.YtagfnjpjmmleiaaDoorK
set_option linter.unusedVariables false
set_option linter.unusedSimpArgs false
set_option autoImplicit false
set_option maxRecDepth 1000000
set_option maxHeartbeats 1000000
namespace Go.Proofs.YtagfnjpjmmleiaaDoor
noncomputable section
open Go.X
def masks : List Nat := [0, 0, 0, 633845851853049275481667436535, 1048823, 17179870671, 4835704449395527917076467, 2364642005948643410173, 31, 8223, 4125, 285, 39933242101342562473819074551, 13297512820147156553149035378836570103, 5, 2252368913631359, 8589935155, 8623622087, 540247, 92233720385744929271, 525555, 19, 1, 4533908531567, 1006633007, 23, 9007474133172339, 19, 2308111576831370707, 5327296576856733442020260383830311091, 19, 77372433119155316387782599, 21, 4734490351187443916787, 7, 13, 1005, 1180591653737638008135, 21, 8590067955, 33747, 21, 5, 17596514574653, 51, 5, 19, 5, 1929, 71283, 599555244177929281523, 10384593871817177683247510831234831, 5, 524353, 5, 83, 2256472742298567, 1073746119, 1074268103, 8804682991559, 20829169751433159, 8391, 83087207854311395603287443752634311, 19, 19023213622105999119, 22458641409078797123448399039441150152463, 277, 16661, 0, 17188391667, 4503668346913551, 5, 5, 71, 1055, 5, 21, 13, 2923003971560093291123168138537876760321514930163, 20426010943356750102455122975, 262927, 5, 13, 5, 5, 21, 21, 0, 0, 0, 0, 0, 0, 0, 0, 0, 0, 0, 0, 0, 0, 0, 0, 0, 0, 0, 0, 0, 0, 0]
def mask (f : Nat) : Nat := Option.rec 0 (fun x => x) (lget masks f)
def C0 : Cfg := cfgN false mask (fun _ => none)
def C1 : Cfg := cfgN true mask (fun _ => none)
def F : Nat := 100000
theorem good1 : X.Good C1 Tryd.prog := goodN _ _ _ _
theorem good0 : X.Good C0 Tryd.prog := goodN _ _ _ _
end
end Go.Proofs.YtagfnjpjmmleiaaDoor
/- Drat: what the executor is told: the text of a clause. -/
set_option autoImplicit false
set_option linter.unusedVariables false
set_option maxRecDepth 1000000
namespace Go.Proofs.YtagfnjpjmmleiaaDoor
noncomputable section
open Go.X
/-- where the table of powers is -/
def glA : Glob := fun g => Bool.rec none (some 0) (Nat.beq g 0)
def powL : List Int := [1, 10, 100, 1000, 10000, 100000, 1000000, 10000000, 100000000, 1000000000, 10000000000, 100000000000, 1000000000000, 10000000000000, 100000000000000, 1000000000000000, 10000000000000000, 100000000000000000, 1000000000000000000, 10000000000000000000]
def POW : List AV := lmap (fun z => AV.int .u64 z) powL
def hA (e : TypeId) : H := ⟨T.set T.leaf (.row POW e false []) 0, 1⟩
theorem powL_eq : powL = Lib.pow10Tab := by decide
/-- the table, cell for cell -/
def tabQ (kk : IntKind) (zs : List Int) : List AV → Bool := List.rec (fun cs => Nat.beq (llen cs) 0) (fun z _ ih cs => match cs with
  | [] => false
  | c :: cs => match c with
    | .int k n => Bool.and (Bool.and (Nat.beq (IntKind.num k) (IntKind.num kk)) (eqI n z)) (ih cs)
    | _ => false) zs
theorem eqI_iff {a b : Int} (h : eqI a b = true) : a = b := by
  cases a with
  | ofNat a => cases b with
    | ofNat b => exact congrArg Int.ofNat (Nat.eq_of_beq_eq_true h)
    | negSucc b => cases h
  | negSucc a => cases b with
    | ofNat b => cases h
    | negSucc b => exact congrArg Int.negSucc (Nat.eq_of_beq_eq_true h)
theorem num_inj {k k' : IntKind} (h : IntKind.num k = IntKind.num k') : k = k' := by
  cases k <;> cases k' <;> first | rfl | (cases h)
theorem tabQ_eq {kk : IntKind} : ∀ {zs : List Int} {cs : List AV}, tabQ kk zs cs = true → cs = zs.map fun z => AV.int kk z
  | [], cs, h => by
    cases cs with
    | nil => rfl
    | cons c cs =>
      have h : Nat.beq (llen (c :: cs)) 0 = true := h
      rw [llen_eq] at h
      cases Nat.eq_of_beq_eq_true h
  | z :: zs, [], h => by cases h
  | z :: zs, c :: cs, h => by
    cases c with
    | int k n =>
      have h : Bool.and (Bool.and (Nat.beq (IntKind.num k) (IntKind.num kk)) (eqI n z)) (tabQ kk zs cs) = true := h
      obtain ⟨h1, h2⟩ := and_tt h
      obtain ⟨h3, h4⟩ := and_tt h1
      rw [num_inj (Nat.eq_of_beq_eq_true h3), eqI_iff h4, tabQ_eq h2]; rfl
    | _ => cases h
/-- a small literal's text, with its blank -/
def litT (z : Int) : Option (List Nat) := Int.rec (fun k => Bool.rec (Bool.rec none (some [50, 32]) (Nat.beq k 2)) (some [49, 32]) (Nat.beq k 1)) (fun k => Bool.rec (Bool.rec none (some [45, 50, 32]) (Nat.beq k 1)) (some [45, 49, 32]) (Nat.beq k 0)) z
theorem litT_spec {z : Int} {bs : List Nat} (h : litT z = some bs) : -1000000000 ≤ z ∧ z ≤ 1000000000 ∧ (Lib.itoa z ++ [32]).map UInt8.toNat = bs := by
  cases z with
  | ofNat k =>
    have h : (Bool.rec (Bool.rec none (some [50, 32]) (Nat.beq k 2)) (some [49, 32]) (Nat.beq k 1) : Option (List Nat)) = some bs := h
    cases h1 : Nat.beq k 1 with
    | true =>
      rw [h1] at h; cases h
      rw [Nat.eq_of_beq_eq_true h1]
      refine ⟨by decide, by decide, ?_⟩
      unfold Lib.itoa
      rw [if_neg (by decide)]
      show List.map UInt8.toNat (Lib.decDigits 1 ++ [32]) = _
      rw [Lib.decDigits, dif_pos (by decide)]; rfl
    | false =>
      rw [h1] at h
      cases h2 : Nat.beq k 2 with
      | false => rw [h2] at h; cases h
      | true =>
        rw [h2] at h; cases h
        rw [Nat.eq_of_beq_eq_true h2]
        refine ⟨by decide, by decide, ?_⟩
        unfold Lib.itoa
        rw [if_neg (by decide)]
        show List.map UInt8.toNat (Lib.decDigits 2 ++ [32]) = _
        rw [Lib.decDigits, dif_pos (by decide)]; rfl
  | negSucc k =>
    have h : (Bool.rec (Bool.rec none (some [45, 50, 32]) (Nat.beq k 1)) (some [45, 49, 32]) (Nat.beq k 0) : Option (List Nat)) = some bs := h
    cases h1 : Nat.beq k 0 with
    | true =>
      rw [h1] at h; cases h
      rw [Nat.eq_of_beq_eq_true h1]
      refine ⟨by decide, by decide, ?_⟩
      unfold Lib.itoa
      rw [if_pos (by decide)]
      show List.map UInt8.toNat (45 :: Lib.decDigits 1 ++ [32]) = _
      rw [Lib.decDigits, dif_pos (by decide)]; rfl
    | false =>
      rw [h1] at h
      cases h2 : Nat.beq k 1 with
      | false => rw [h2] at h; cases h
      | true =>
        rw [h2] at h; cases h
        rw [Nat.eq_of_beq_eq_true h2]
        refine ⟨by decide, by decide, ?_⟩
        unfold Lib.itoa
        rw [if_pos (by decide)]
        show List.map UInt8.toNat (45 :: Lib.decDigits 2 ++ [32]) = _
        rw [Lib.decDigits, dif_pos (by decide)]; rfl
/-- a clause's text, of cells -/
def keyT (l : List AV) : Option (List Nat) := List.rec (some []) (fun a _ ih => match a with
  | .int k z => match litT z with
    | some bs => match ih with
      | some r => Bool.rec none (some (lapp bs r)) (Nat.beq (IntKind.num k) (IntKind.num .i64))
      | none => none
    | none => none
  | _ => none) l
theorem keyT_spec : ∀ {l : List AV} {bs : List Nat}, keyT l = some bs → ∃ zs : List Int, l = zs.map (fun z => AV.int .i64 z) ∧ (∀ z ∈ zs, -1000000000 ≤ z ∧ z ≤ 1000000000) ∧ (keyOf zs).map UInt8.toNat = bs
  | [], bs, h => by cases h; exact ⟨[], rfl, (fun z hz => (by cases hz)), rfl⟩
  | a :: l, bs, h => by
    cases a with
    | int k z =>
      have h : (match litT z with
        | some bs => match keyT l with
          | some r => (Bool.rec none (some (lapp bs r)) (Nat.beq (IntKind.num k) (IntKind.num .i64)) : Option (List Nat))
          | none => none
        | none => none) = some bs := h
      split at h <;> try (cases h; done)
      rename_i b1 h1
      split at h <;> try (cases h; done)
      rename_i r h2
      cases hk : Nat.beq (IntKind.num k) (IntKind.num .i64) with
      | false => rw [hk] at h; cases h
      | true =>
        rw [hk] at h; cases h
        obtain ⟨zs, e1, e2, e3⟩ := keyT_spec h2
        obtain ⟨l1, l2, l3⟩ := litT_spec h1
        refine ⟨z :: zs, by rw [num_inj (Nat.eq_of_beq_eq_true hk), e1]; rfl, fun y hy => ?_, ?_⟩
        · rcases List.mem_cons.1 hy with rfl | hy
          · exact ⟨l1, l2⟩
          · exact e2 y hy
        · show ((Lib.itoa z ++ [32]) ++ keyOf zs).map UInt8.toNat = _
          rw [List.map_append, l3, e3, lapp_eq]
    | _ => cases h
def pk (l : List Nat) : Nat := List.rec 0 (fun a _ ih => Nat.add a (Nat.mul 256 ih)) l
theorem pk_pack : ∀ (l : List UInt8), pack l = pk (l.map UInt8.toNat)
  | [] => rfl
  | a :: l => by show Nat.add a.toNat (Nat.mul 256 (pack l)) = Nat.add a.toNat (Nat.mul 256 (pk (l.map UInt8.toNat))); rw [pk_pack l]
theorem keyS {zs : List Int} {bs : List Nat} (h : (keyOf zs).map UInt8.toNat = bs) : strOf ⟨(keyOf zs).toArray⟩ = .str (llen bs) (pk bs) := by
  subst h
  unfold strOf
  rw [pk_pack, llen_eq, llen_eq, List.length_map]
/-- the text of a clause -/
def conKey : Con := fun args h ds K => match args with
  | [a] => match a with
    | .slc r o n c ex sz => match T.get h.b 0 with
      | some (.row tb _ _ _) => match T.get h.b r with
        | some (.row cells _ _ _) => match keyT (ltake (ldrop cells o) n) with
          | some bs => Bool.rec False (K (.str (llen bs) (pk bs)) h ds) (Bool.and (tabQ .u64 powL tb) (Bool.and (Nat.beq (llen (ltake (ldrop cells o) n)) n) (Nat.ble n 1000000)))
          | none => False
        | _ => False
      | _ => False
    | .nils => K (.str 0 0) h ds
    | _ => False
  | _ => False
theorem conKey_spl (args : List AV) (h : H) (ds : List Bool) : Spl h (fun K => conKey args h ds K) := by
  intro K hk
  match args, hk with
  | [], hk => exact hk.elim
  | a :: b :: l, hk => exact hk.elim
  | [a], hk =>
    cases a with
    | slc r o n c ex sz =>
      simp only [conKey] at hk ⊢
      split at hk <;> try exact hk.elim
      split at hk <;> try exact hk.elim
      split at hk <;> try exact hk.elim
      cases hb : Bool.and (tabQ .u64 powL _) (Bool.and (Nat.beq (llen (ltake (ldrop _ o) n)) n) (Nat.ble n 1000000)) with
      | false => rw [hb] at hk; exact hk.elim
      | true => rw [hb] at hk; exact ⟨_, _, _, hk, Nat.le_refl _, fun K' hk' => hk'⟩
    | nils => exact ⟨_, _, _, hk, Nat.le_refl _, fun K' hk' => hk'⟩
    | _ => exact hk.elim
theorem glA_rg {L : LM} (rg : RG L glA) : L 0 = some ⟨0, 0, 20⟩ := rg 0 0 rfl
theorem gPow : Tryd.prog.globalNamed "internal/strconv.uint64pow10" = some 0 := by kernel_rfl
theorem tab_of {L : LM} (hL : L 0 = some ⟨0, 0, 20⟩) {h : H} {w : World} {U : Nat} (r : RH L h w U) {e : TypeId} {wr : Bool} {ps : List Nat} (h0 : T.get h.b 0 = some (.row POW e wr ps)) (wr : World) (hb : RowKit.Below w.heap.size w wr) :
    Lib.TabIs Tryd.prog wr "internal/strconv.uint64pow10" .u64 Lib.pow10Tab := by
  obtain ⟨c, fz, h1, ⟨h2, _⟩, _, h4⟩ := r.mem 0 _ _ h0 hL
  have h1 : w.heap[0]? = some (.cells c e fz) := h1
  have hlt := (Array.getElem?_eq_some_iff.1 h1).1
  have e1 := hb.block 0 hlt
  rw [h1] at e1
  unfold Lib.TabIs World.var?
  rw [gPow]
  simp only [Option.bind_some, e1]
  refine congrArg some ?_
  have h2 : c.size = 20 := h2
  apply Array.ext_getElem?
  intro k
  rw [← powL_eq]
  refine Eq.trans (b := (powL.map fun z => Value.int .u64 z)[k]?) ?_ (by simp)
  rw [List.getElem?_map]
  cases hk : powL[k]? with
  | none =>
    have : 20 ≤ k := by
      have := List.getElem?_eq_none_iff.1 hk
      have e : powL.length = 20 := rfl
      omega
    exact Array.getElem?_eq_none (by omega)
  | some z =>
    have hc : POW[k]? = some (.int .u64 z) := by
      unfold POW
      rw [lmap_eq, List.getElem?_map, hk]; rfl
    obtain ⟨v', q1, q2⟩ := h4 k _ hc
    cases q2
    have q1 : c[0 + k]? = some (.int .u64 z) := q1
    rw [Nat.zero_add] at q1
    exact q1
theorem quiet_of {w w' : World} (hb : RowKit.Below w.heap.size w w') : Quiet w w' :=
  ⟨hb.size, hb.block, hb.os, hb.output, hb.tape, fun a ha => hb.frozen (p := a) ha⟩
theorem conKey_ok (args : List AV) (h : H) (ds : List Bool) (K : KV) (hk : conKey args h ds K) : CallOK Tryd.prog glA 36 args h K := by
  match args, hk with
  | [], hk => exact hk.elim
  | a :: b :: l, hk => exact hk.elim
  | [a], hk =>
    cases a with
    | slc r o n c ex sz =>
      simp only [conKey] at hk
      split at hk <;> try exact hk.elim
      rename_i tb te tw tp ht
      split at hk <;> try exact hk.elim
      rename_i cells ce cw cp hc
      split at hk <;> try exact hk.elim
      rename_i bs hbs
      cases hb : Bool.and (tabQ .u64 powL tb) (Bool.and (Nat.beq (llen (ltake (ldrop cells o) n)) n) (Nat.ble n 1000000)) with
      | false => rw [hb] at hk; exact hk.elim
      | true =>
        rw [hb] at hk
        have hk : K (.str (llen bs) (pk bs)) h ds := hk
        obtain ⟨b1, b2⟩ := and_tt hb
        obtain ⟨b2, b3⟩ := and_tt b2
        have b2 := Nat.eq_of_beq_eq_true b2
        have b3 := Nat.le_of_ble_eq_true b3
        have htb : tb = POW := by rw [tabQ_eq b1]; unfold POW; rw [lmap_eq]
        subst htb
        obtain ⟨zs, e1, e2, e3⟩ := keyT_spec hbs
        rw [e1, llen_eq, List.length_map] at b2
        rw [ltake_eq, ldrop_eq] at e1
        intro L w args' U rg hargs rh hU
        obtain ⟨al⟩ := args'
        cases hargs with
        | cons _ v0 _ vr hv0 hvr =>
        cases hvr
        cases hv0 with
        | slc _ _ _ _ _ _ p c' hp q1 q2 q3 q4 =>
        obtain ⟨d, fz, d1, d2, d3, d4⟩ := rh.mem _ _ _ hc hp
        refine Calls.mono (key_walk p.B (p.O + o) n c' zs w b2 b3 (rh.below _ _ hp) (fun j hj => ?_) (fun j hj => ?_) (tab_of (glA_rg rg) rh ht)) ?_
        · have : zs[j]? = some (zs[j]'(by omega)) := List.getElem?_eq_getElem (by omega)
          rw [List.getD_eq_getElem?_getD, this]
          exact e2 _ (List.getElem_mem _)
        · have hz : zs[j]? = some (zs[j]'(by omega)) := List.getElem?_eq_getElem (by omega)
          have hcj : cells[o + j]? = some (.int .i64 (zs.getD j 0)) := by
            have := congrArg (fun l => l[j]?) e1
            rw [List.getD_eq_getElem?_getD, hz]
            simpa [List.getElem?_take, hj, List.getElem?_drop, hz] using this
          obtain ⟨v', f1, f2⟩ := d4 _ _ hcj
          cases f2
          rw [cell_row d1, Nat.add_assoc]
          exact f1
        · rintro e w' ⟨rfl, hb⟩
          obtain ⟨k1, k2⟩ := (quiet_of hb).rh rh
          exact ⟨_, h, ds, L, _, rfl, hk, .str _ _ _ (keyS e3), k1, k2⟩
    | nils =>
      intro L w args' U rg hargs rh hU
      obtain ⟨al⟩ := args'
      cases hargs with
      | cons _ v0 _ vr hv0 hvr =>
      cases hvr
      cases hv0
      refine Calls.mono (key_nil none 0 w) ?_
      rintro e w' ⟨rfl, hb⟩
      obtain ⟨k1, k2⟩ := (quiet_of hb).rh rh
      exact ⟨_, h, ds, L, _, rfl, hk, .str _ _ _ (keyS (zs := []) (bs := []) rfl), k1, k2⟩
    | _ => exact hk.elim
def CA : Cfg := cfgN false mask glA
def CK : Cfg := CA.addCon 36 conKey
theorem goodCK : X.Good CK Tryd.prog := (goodN _ _ _ _).addCon 36 conKey conKey_spl conKey_ok
def CD : Cfg := CK.addCon 37 (xD CK Tryd.prog F 37)
theorem goodCD : X.Good CD Tryd.prog := goodCK.addDef 37 F
end
end Go.Proofs.YtagfnjpjmmleiaaDoor
/- Drat: what the executor is told: slices.Compact of 1, 2, 2. -/
set_option autoImplicit false
set_option linter.unusedVariables false
set_option maxRecDepth 1000000
namespace Go.Proofs.YtagfnjpjmmleiaaDoor
noncomputable section
open Go.X
def d3 : List AV := [.int .i64 1, .int .i64 2, .int .i64 2]
def d2 : List AV := [.int .i64 1, .int .i64 2, .int .i64 0]
def isNil (l : List Nat) : Bool := List.rec true (fun _ _ _ => false) l
/-- a row of 1, 2, 2 -/
def dupQ (o n c : Nat) (cells : List AV) (wr : Bool) (ps : List Nat) : Bool := Bool.and (Bool.and (Bool.and (Nat.beq o 0) (Nat.beq n 3)) (Bool.and (Nat.ble 3 c) (Bool.and wr (isNil ps)))) (tabQ .i64 [1, 2, 2] cells)
def fDup (args : List AV) (h : H) : Option (AV × H) := match args with
  | [a] => match a with
    | .slc r o n c ex sz => match T.get h.b r with
      | some (.row cells e wr ps) => Bool.rec none (some (.slc r 0 2 c ex sz, ⟨T.set h.b (.row d2 e true []) r, h.next⟩)) (dupQ o n c cells wr ps)
      | _ => none
    | _ => none
  | _ => none
def con43 : Con := fun args h ds K => match fDup args h with
  | some x => K x.1 x.2 ds
  | none => xfun CD Tryd.prog (xcode CD Tryd.prog F) 43 args h ds K
theorem fDup_spec {args : List AV} {h : H} {v : AV} {h' : H} (hf : fDup args h = some (v, h')) : ∃ r c ex sz e, args = [.slc r 0 3 c ex sz] ∧ 3 ≤ c ∧ T.get h.b r = some (.row d3 e true []) ∧ v = .slc r 0 2 c ex sz ∧ h' = ⟨T.set h.b (.row d2 e true []) r, h.next⟩ := by
  match args, hf with
  | [], hf => cases hf
  | a :: b :: l, hf => cases hf
  | [a], hf =>
    cases a with
    | slc r o n c ex sz =>
      simp only [fDup] at hf
      split at hf <;> try (cases hf; done)
      rename_i cells e wr ps hr
      cases hb : dupQ o n c cells wr ps with
      | false => rw [hb] at hf; cases hf
      | true =>
        rw [hb] at hf; cases hf
        obtain ⟨b1, b2⟩ := and_tt hb
        obtain ⟨b1, b3⟩ := and_tt b1
        obtain ⟨b4, b5⟩ := and_tt b1
        obtain ⟨b6, b7⟩ := and_tt b3
        obtain ⟨b8, b9⟩ := and_tt b7
        have hc : cells = d3 := tabQ_eq b2
        have hp : ps = [] := by
          cases ps with
          | nil => rfl
          | cons a l => cases b9
        subst hc hp b8
        rw [Nat.eq_of_beq_eq_true b4, Nat.eq_of_beq_eq_true b5]
        exact ⟨r, c, ex, sz, e, rfl, Nat.le_of_ble_eq_true b6, hr, rfl, rfl⟩
    | _ => cases hf
theorem fDup_next {args : List AV} {h : H} {v : AV} {h' : H} (hf : fDup args h = some (v, h')) : h'.next = h.next := by
  obtain ⟨r, c, ex, sz, e, _, _, _, _, rfl⟩ := fDup_spec hf
  rfl
theorem con43_spl (args : List AV) (h : H) (ds : List Bool) : Spl h (fun K => con43 args h ds K) := by
  intro K hk
  unfold con43 at hk ⊢
  split at hk
  · rename_i x hx
    exact ⟨_, _, _, hk, Nat.le_of_eq (fDup_next (v := x.1) (h' := x.2) hx).symm, fun K' hk' => hk'⟩
  · exact xfun_spl goodCD.spl (xcode_spl goodCD.spl F) 43 args h ds K hk
theorem compact3 : Lib.compact ([1, 2, 2] : List Int) = [1, 2] := by decide
theorem putRow_setRow {w : World} {g off : Nat} {d : List Int} {c : Array Value} {e : TypeId} {fz : Nat × Nat} (h : w.heap[g]? = some (.cells c e fz)) :
    Sort.putRow (Value.int .i64) w g off d.toArray = w.setRow g (Sort.putCells (Value.int .i64) off d.toArray c) := by
  unfold Sort.putRow Sort.mapBlock World.setRow
  congr 1
  apply Array.ext_getElem?
  intro k
  rw [Array.getElem?_modify, Array.getElem?_modify]
  by_cases hk : g = k
  · subst hk
    rw [if_pos rfl, if_pos rfl, h]; rfl
  · rw [if_neg hk, if_neg hk]
theorem con43_ok (args : List AV) (h : H) (ds : List Bool) (K : KV) (hk : con43 args h ds K) : CallOK Tryd.prog glA 43 args h K := by
  unfold con43 at hk
  split at hk
  rotate_left
  · exact xrun_call goodCD.ok goodCD.spl hk
  rename_i x hx
  obtain ⟨v, h'⟩ := x
  obtain ⟨r, c, ex, sz, e, rfl, h3, hr, rfl, rfl⟩ := fDup_spec hx
  intro L w args' U rg hargs rh hU
  obtain ⟨al⟩ := args'
  cases hargs with
  | cons _ v0 _ vr hv0 hvr =>
  cases hvr
  cases hv0 with
  | slc _ _ _ _ _ _ p c' hp q1 q2 q3 q4 =>
  obtain ⟨d, fz, d1, d2', d3', d4⟩ := rh.mem _ _ _ hr hp
  obtain rfl := d3' rfl
  have cell : ∀ j : Nat, ∀ z : Int, d3[j]? = some (.int .i64 z) → d[p.O + j]? = some (.int .i64 z) := by
    intro j z hz
    obtain ⟨v', f1, f2⟩ := d4 _ _ hz
    cases f2
    exact f1
  have hH : Sort.Holds (Value.int .i64) w p.B (p.O + 0) ([1, 2, 2] : List Int).toArray := by
    intro j hj
    refine ⟨?_, by unfold World.frozen?; simp [d1]⟩
    rw [cell_row d1, Nat.add_zero]
    have hj : j < 3 := hj
    match j, hj with
    | 0, _ => exact cell 0 1 rfl
    | 1, _ => exact cell 1 2 rfl
    | 2, _ => exact cell 2 2 rfl
  refine Calls.mono (Tryd.slices_Compact_int p.B (p.O + 0) c' [1, 2, 2] w hH (by decide) (by show 3 ≤ c'; omega)) ?_
  rintro e1 w' ⟨rfl, q, rfl⟩
  rw [compact3]
  have hq : Quiet w (Sort.ahead w q) := ⟨Nat.le_refl _, fun _ _ => rfl, rfl, rfl, rfl, fun _ _ => rfl⟩
  obtain ⟨k1, k2⟩ := hq.rh rh
  have d1' : (Sort.ahead w q).heap[p.B]? = some (.cells d e (0, 0)) := d1
  have hsz : (Sort.putCells (Value.int .i64) (p.O + 0) ([1, 2] ++ List.replicate (([1, 2, 2] : List Int).length - ([1, 2] : List Int).length) 0 : List Int).toArray d).size = d.size := by simp [Sort.putCells]
  rw [putRow_setRow d1']
  have hcells : ∀ (k : Nat) (v : AV), d2[k]? = some v → ∃ v', (Sort.putCells (Value.int .i64) (p.O + 0) ([1, 2] ++ List.replicate (([1, 2, 2] : List Int).length - ([1, 2] : List Int).length) 0 : List Int).toArray d)[p.O + k]? = some v' ∧ RV L v v' := by
    intro k v hv
    have hk3 : k < 3 := by
      have := (List.getElem?_eq_some_iff.1 hv).1
      exact this
    have key : ∀ z : Int, v = .int .i64 z → ∀ y, d[p.O + k]? = some y → ([1, 2, 0] : List Int).toArray[k]! = z → ∃ v', (Sort.putCells (Value.int .i64) (p.O + 0) ([1, 2] ++ List.replicate (([1, 2, 2] : List Int).length - ([1, 2] : List Int).length) 0 : List Int).toArray d)[p.O + k]? = some v' ∧ RV L v v' := by
      rintro z rfl y hy hz
      refine ⟨.int .i64 z, ?_, .int _ _⟩
      unfold Sort.putCells
      rw [Array.getElem?_mapIdx, hy, Option.map_some, Nat.add_zero, if_pos ⟨Nat.le_add_right _ _, Nat.add_lt_add_left (by exact hk3) _⟩, show p.O + k - p.O = k by omega]
      exact congrArg (fun n => some (Value.int .i64 n)) hz
    match k, hk3 with
    | 0, _ => cases hv; exact key 1 rfl _ (cell 0 1 rfl) rfl
    | 1, _ => cases hv; exact key 2 rfl _ (cell 1 2 rfl) rfl
    | 2, _ => cases hv; exact key 0 rfl _ (cell 2 2 rfl) rfl
  obtain ⟨m1, m2⟩ := rh_set k1 hr hp d _ d1' hsz d2 hcells (T.set h.b (.row d2 e true []) r) (fun j k hj => by
    rcases T.get_set hj with ⟨rfl, rfl⟩ | ⟨hne, hj⟩
    · exact .inl ⟨rfl, rfl⟩
    · exact .inr ⟨hne, hj, fun hm => by cases hm⟩)
  exact ⟨_, _, ds, L, _, rfl, hk, .slc r 0 2 c ex sz p c' hp q1 (by omega) q3 q4, m1, k2.trans m2⟩
def CE : Cfg := CD.addCon 43 con43
theorem goodCE : X.Good CE Tryd.prog := goodCD.addCon 43 con43 con43_spl con43_ok
end
end Go.Proofs.YtagfnjpjmmleiaaDoor
