/- Drat: the checker is made. -/
import Derived.Test.YtagfnjpjmmleiaaDoorTL
import Derived.Deep.RegionHeld3
import Derived.Deep.Cut
set_option linter.unusedVariables false
set_option linter.unusedSimpArgs false
set_option autoImplicit false
set_option linter.unusedVariables false
set_option linter.unusedSimpArgs false
namespace Go.Proofs.YtagfnjpjmmleiaaDoor
open Go.Shelf Go.RowKit
/-- a checker that holds nothing -/
def St0 (V : Nat) : St := ⟨0, fun _ => false, fun _ => [], fun _ => [], fun _ => [], [], 0, fun _ => [], List.replicate (V + 1) 0, [], 0⟩
theorem st0_rest (V : Nat) : RestS V (St0 V) := by
  refine ⟨⟨⟨by simp [St0], fun y hy => ?_⟩, fun i hi => by simp [St0] at hi, fun i hi => by simp [St0] at hi, fun i => by simp [St0], fun c i => by simp [St0], by simp [St0, empties, alive], fun k => by simp [St0], fun k i => by simp [St0], by simp [St0], fun c => by simp [St0]⟩, ⟨fun c => by simp [St0], fun c i hi => by simp [St0] at hi, fun i hi => by simp [St0] at hi, fun c i hi => by simp [St0] at hi⟩, rfl, fun x hx => ?_⟩
  · have := (List.mem_replicate.1 hy).2
    omega
  · have h0 : ∀ m, (St0 V).vals.getD m 0 = 0 := fun m => by
      simp only [St0, List.getD_eq_getElem?_getD, List.getElem?_replicate]
      split <;> rfl
    unfold litV
    rw [h0]
    simp
theorem st0_cls (V : Nat) : cls (St0 V) = [] := by simp [cls, alive, St0]
theorem keepAl {w X : World} {v : Value} {o : Obj} (h : X.cell? ⟨w.heap.size, 0, none⟩ = some v) (hs : w.heap.size < X.heap.size) : (X.alloc o).cell? ⟨w.heap.size, 0, none⟩ = some v := (World.cell?_of_block (Below.heap_alloc _ _ _ hs)).trans h
theorem keepDr {w X : World} {v : Value} (h : X.cell? ⟨w.heap.size, 0, none⟩ = some v) : (X.drew).cell? ⟨w.heap.size, 0, none⟩ = some v := h
theorem ltAl {w X : World} {o : Obj} (hs : w.heap.size < X.heap.size) : w.heap.size < (X.alloc o).heap.size := by simp; omega
theorem ltA0 {w : World} {o : Obj} : w.heap.size < (w.alloc o).heap.size := by simp
theorem wrapS (x : Int) (h0 : 0 ≤ x) (h1 : x ≤ 9223372036854775807) : IntKind.i64.wrap x = x := by
  simp [IntKind.wrap, IntKind.bits, IntKind.signed]
  omega
def own0 (cx : Cx) : Nat → Option Tag := fun g => if g = cx.xb then some .x else if g = cx.wb then some .watch else if g = cx.hb then some .has else if g = cx.mb then some .map else if g = cx.vb then some .vals else none
theorem made_cell (w : World) (z : Value) (e n m : Nat) (hm : m < n) : (w.alloc (.cells (madeCells #[z] n) e)).cell? ⟨w.heap.size, m, none⟩ = some z ∧ (w.alloc (.cells (madeCells #[z] n) e)).frozen? ⟨w.heap.size, m, none⟩ = false := by
  have hh : (w.alloc (.cells (madeCells #[z] n) e)).heap[w.heap.size]? = some (.cells (madeCells #[z] n) e) := by
    show (w.heap.push _)[w.heap.size]? = _
    simp
  refine ⟨(cell_new ..).trans ?_, by unfold World.frozen?; rw [hh]; simp⟩
  simp [madeCells, hm, Nat.mod_one]
structure Begun (V lo : Nat) (f : Value) (w0 w : World) (xb wb hb mb vb : Nat) : Prop where
  bel : Below w0.heap.size w0 w
  ne : [xb, wb, hb, mb, vb].Nodup
  lt : ∀ b ∈ [xb, wb, hb, mb, vb], lo ≤ b ∧ b < w.heap.size
  box : w.cell? ⟨lo, 1, none⟩ = some f
  hx : w.heap[xb]? = some (.cells #[.int .i64 (V : Int), .slice none 0 0, .slice (some ⟨wb, 0, none⟩) (2 * V + 2) (2 * V + 2), .slice (some ⟨hb, 0, none⟩) (2 * V + 2) (2 * V + 2), .slice none 0 0, .int .i64 0, .map (some mb), .slice (some ⟨vb, 0, none⟩) (V + 1) (V + 1), .slice none 0 0] 60)
  hw : w.heap[wb]? = some (.cells (madeCells #[.slice none 0 0] (2 * V + 2)) 33)
  hh : w.heap[hb]? = some (.cells (madeCells #[.slice none 0 0] (2 * V + 2)) 33)
  hm : w.heap[mb]? = some (.map #[] 0)
  hv : w.heap[vb]? = some (.cells (madeCells #[.int .i8 0] (V + 1)) 92)
def cx0 (V lo xb wb hb mb vb : Nat) : Cx := ⟨xb, wb, hb, vb, mb, 2 * V + 2, 2 * V + 2, V + 1, V, lo⟩
theorem block_cell {w : World} {b : Nat} {cs : Array Value} {e : TypeId} (h : w.heap[b]? = some (.cells cs e)) (m : Nat) : w.cell? ⟨b, m, none⟩ = cs[m]? ∧ w.frozen? ⟨b, m, none⟩ = false := by
  refine ⟨?_, by unfold World.frozen?; rw [h]; simp⟩
  unfold World.cell?
  rw [h]
  simp
theorem Begun.rep {V lo : Nat} {f : Value} {w0 w : World} {xb wb hb mb vb : Nat} (B : Begun V lo f w0 w xb wb hb mb vb) : Rep (cx0 V lo xb wb hb mb vb) w (own0 (cx0 V lo xb wb hb mb vb)) (fun _ => nilV) (St0 V) := by
  have hne := B.ne
  simp only [List.nodup_cons, List.mem_cons, List.not_mem_nil, or_false, not_or] at hne
  obtain ⟨⟨n1, n2, n3, n4⟩, ⟨n5, n6, n7⟩, ⟨n8, n9⟩, n10, _⟩ := hne
  have hfit : WideElems.Fit Tryd.prog 9 asIs #[] 0 := by
    obtain ⟨es, clock, hb, F, _⟩ := World.ownsMap_made w Tryd.prog 9 asIs
    have h0 : (w.alloc (.map #[] 0)).heap[w.heap.size]? = some (.map #[] 0) := by
      show (w.heap.push _)[w.heap.size]? = _
      simp
    rw [h0] at hb
    cases hb
    exact F
  refine ⟨fun g t e => B.lt g ?_, ⟨by unfold own0 cx0; rw [if_pos rfl], fun i hi => ?_⟩, ⟨by unfold own0 cx0; rw [if_neg (fun e => n1 e.symm), if_pos rfl], fun m hm => ?_⟩, ⟨by unfold own0 cx0; rw [if_neg (fun e => n2 e.symm), if_neg (fun e => n5 e.symm), if_pos rfl], fun m hm => ?_⟩, ⟨by unfold own0 cx0; rw [if_neg (fun e => n4 e.symm), if_neg (fun e => n7 e.symm), if_neg (fun e => n9 e.symm), if_neg (fun e => n10 e.symm), if_pos rfl], fun m hm => ?_⟩, fun t ht => ?_, ⟨by unfold own0 cx0; rw [if_neg (fun e => n3 e.symm), if_neg (fun e => n6 e.symm), if_neg (fun e => n8 e.symm), if_pos rfl], .map [], ⟨#[], 0, B.hm, hfit, by simp, by simp⟩, fun k => rfl⟩⟩
  · unfold own0 cx0 at e
    simp only at e
    split at e
    · rename_i h; simp [h]
    · split at e
      · rename_i h; simp [h]
      · split at e
        · rename_i h; simp [h]
        · split at e
          · rename_i h; simp [h]
          · split at e
            · rename_i h; simp [h]
            · cases e
  · obtain ⟨h1, h2⟩ := block_cell B.hx i
    refine ⟨h1.trans ?_, h2⟩
    match i, hi with
    | 0, _ => rfl
    | 1, _ => rfl
    | 2, _ => rfl
    | 3, _ => rfl
    | 4, _ => rfl
    | 5, _ => rfl
    | 6, _ => rfl
    | 7, _ => rfl
    | 8, _ => rfl
  · obtain ⟨h1, h2⟩ := block_cell B.hw m
    refine ⟨h1.trans ?_, h2⟩
    have hm' : m < 2 * V + 2 := hm
    simp [madeCells, hm', Nat.mod_one, nilV]
  · obtain ⟨h1, h2⟩ := block_cell B.hh m
    refine ⟨h1.trans ?_, h2⟩
    have hm' : m < 2 * V + 2 := hm
    simp [madeCells, hm', Nat.mod_one, nilV]
  · obtain ⟨h1, h2⟩ := block_cell B.hv m
    refine ⟨h1.trans ?_, h2⟩
    have hm' : m < V + 1 := hm
    have h0 : (St0 V).vals.getD m 0 = 0 := by
      simp only [St0, List.getD_eq_getElem?_getD, List.getElem?_replicate]
      split <;> rfl
    rw [h0]
    simp [madeCells, hm', Nat.mod_one]
  · have hn : ∀ (T : Tag), isRow T = true → elen (St0 V) T = 0 ∧ cont (fun _ => nilV) (St0 V) T = [] := by
      intro T hT
      cases T <;> first | (exact ⟨rfl, rfl⟩) | (cases hT)
    rw [(hn t ht).1, (hn t ht).2]
    exact ⟨World.ownsRow_nil _ _ _ _, fun g hg => by cases hg⟩
theorem begBox (w : World) (X : World) {V : Int} {f : Value} (h : X.heap[w.heap.size]? = some (.cells #[.int .i64 V, f] 24)) : X.cell? ⟨w.heap.size, 1, none⟩ = some f := (block_cell h 1).1
theorem begBel (w : World) (a b c d e g : Obj) : Below w.heap.size w ((((((w.alloc a).alloc b).alloc c).alloc d).alloc e).alloc g).drew :=
  ⟨rfl, rfl, rfl, by show w.heap.size ≤ ((((((w.alloc a).alloc b).alloc c).alloc d).alloc e).alloc g).heap.size; simp; omega, fun k hk => by
    show ((((((w.alloc a).alloc b).alloc c).alloc d).alloc e).alloc g).heap[k]? = _
    rw [Below.heap_alloc _ _ _ (by simp; omega), Below.heap_alloc _ _ _ (by simp; omega), Below.heap_alloc _ _ _ (by simp; omega), Below.heap_alloc _ _ _ (by simp; omega), Below.heap_alloc _ _ _ (by simp; omega), Below.heap_alloc _ _ _ hk]⟩
theorem newAt {X : World} {o : Obj} {b : Nat} (h : X.heap.size = b) : (X.alloc o).heap[b]? = some o := by
  subst h
  show (X.heap.push _)[X.heap.size]? = _
  simp
theorem oldAt {X : World} {o o' : Obj} {b : Nat} (h : X.heap[b]? = some o) : (X.alloc o').heap[b]? = some o := by
  have hb : b < X.heap.size := by
    by_cases e : b < X.heap.size
    · exact e
    · rw [Array.getElem?_eq_none (by omega)] at h; cases h
  rw [Below.heap_alloc _ _ _ hb]; exact h
theorem drewAt {X : World} {o : Obj} {b : Nat} (h : X.heap[b]? = some o) : X.drew.heap[b]? = some o := h
theorem take_snocC {α : Type} [Inhabited α] {l : List α} {k : Nat} (h : k < l.length) : l.take (k + 1) = l.take k ++ [l.getD k default] := by
  rw [List.take_add_one, List.getElem?_eq_getElem h, List.getD_eq_getElem?_getD, List.getElem?_eq_getElem h]
  rfl
theorem info33 : (Tryd.prog.info? 33).map (fun i => (i.zero, i.size, i.bytes)) = some (some (.slice none 0 0), 1, 24) := by kernel_rfl
theorem info92 : (Tryd.prog.info? 92).map (fun i => (i.zero, i.size, i.bytes)) = some (some (.int .i8 0), 1, 1) := by kernel_rfl
/-- the checker of a formula -/
def MadeOut (V : Nat) (cs : List (List Int)) (w : World) (e : Ending) (w' : World) : Prop :=
  ∃ cx own rv S, e = .returned (.pointer (some ⟨cx.xb, 0, none⟩)) ∧ Rep cx w' own rv S ∧ RestS V S ∧ cls S = cs.map setZ ∧ cx.V = V ∧ cx.lo = w.heap.size ∧ Below w.heap.size w w' ∧ S.n = cs.length ∧ S.m = cs.length
set_option maxHeartbeats 32000000 in
set_option maxRecDepth 1000000 in
theorem made_walk (hA : AddLaw) (a : Option Addr) (n c : Nat) (cs : List Cl) (V : Nat) (w : World) (hn : cs.length = n) (hlen : n ≤ 1000000) (hl : ∀ j, j < n → (cs.getD j default).zs.length ≤ 1000000) (hz : Rows' w a cs) (hV : V ≤ 900000) (hli : ∀ j, j < n → Lits (V + 1) (cs.getD j default).zs) (ht : Tab w.heap.size w) :
    Calls Tryd.prog 24 #[.agg #[.int .i64 (V : Int), .slice a n c]] w (MadeOut V (cs.map Cl.zs) w) := by
  have hmk22 := fun w => run_make_row' (P := Tryd.prog) 22 33 (.slice none 0 0) 24 Tryd.underlying22 info33 rfl .i64 .i64 (2 * V + 2) (by omega) (by omega) w
  have hmk58 := fun w => run_make_row' (P := Tryd.prog) 58 92 (.int .i8 0) 1 Tryd.underlying58 info92 rfl .i64 .i64 (V + 1) (by omega) (by omega) w
  have hcast : ((2 * V + 2 : Nat) : Int) = 2 * (V : Int) + 2 := by omega
  have hcast1 : ((V + 1 : Nat) : Int) = (V : Int) + 1 := by omega
  simp only [hcast] at hmk22
  simp only [hcast1] at hmk58
  have hmap := fun w => run_makeMap (P := Tryd.prog) 57 w
  go_enter Tryd.func24, Tryd.ntmps24
  go_wp2
  go_cut [3] from 6 (fun x wx => ∃ xb wb hb mb vb, x = .pointer (some ⟨xb, 0, none⟩) ∧ Begun V w.heap.size (.slice a n c) w wx xb wb hb mb vb)
  case first =>
    have b0 : (w.alloc (Obj.cells #[Value.int IntKind.i64 ↑V, Value.slice a n c] 24)).cell? ⟨w.heap.size, 0, none⟩ = some (.int .i64 V) := (cell_new ..).trans rfl
    have hw1 : IntKind.i64.wrap (2 * (V : Int)) = 2 * (V : Int) := wrapS _ (by omega) (by omega)
    have hw2 : IntKind.i64.wrap (2 * (V : Int) + 2) = 2 * (V : Int) + 2 := wrapS _ (by omega) (by omega)
    have hw3 : IntKind.i64.wrap ((V : Int) + 1) = (V : Int) + 1 := wrapS _ (by omega) (by omega)
    go_region_held3 (fun w' => w'.cell? ⟨w.heap.size, 0, none⟩ = some (.int .i64 V)) (first | (apply keepDr; (repeat (first | assumption | exact ltA0 | apply keepAl | apply ltAl)); done) | go_keep) (first | fail)
    all_goals (go_wp2_with fail; go_meet; exact ⟨_, _, _, _, _, rfl, by
      refine Begun.mk ?bel ?ne ?lt ?box (hx := drewAt (newAt ?sx)) ?hw ?hh ?hm ?hv
      case sx => simp
      case hw => (refine drewAt ?_; repeat (first | (refine newAt ?_; simp; done) | refine oldAt ?_))
      case hh => (refine drewAt ?_; repeat (first | (refine newAt ?_; simp; done) | refine oldAt ?_))
      case hm => (refine drewAt ?_; repeat (first | (refine newAt ?_; simp; done) | refine oldAt ?_))
      case hv => (refine drewAt ?_; repeat (first | (refine newAt ?_; simp; done) | refine oldAt ?_))
      case ne => first | (simp [List.nodup_cons]; done) | (simp [List.nodup_cons]; omega)
      case lt => (simp; omega)
      case box => exact begBox _ _ (by refine drewAt ?_; repeat (first | (refine newAt ?_; simp; done) | refine oldAt ?_))
      case bel => exact begBel _ _ _ _ _ _ _⟩)
  case rest =>
    obtain ⟨xb, wb, hb, mb, vb, rfl, B⟩ := hcut
    have hR0 := B.rep
    have hbel0 := B.bel
    have hbox0 := B.box
    obtain ⟨cx, hcx⟩ : ∃ cx, cx0 V w.heap.size xb wb hb mb vb = cx := ⟨_, rfl⟩
    have hcV : cx.V = V := by rw [← hcx]; rfl
    have hclo : cx.lo = w.heap.size := by rw [← hcx]; rfl
    have hcxb : xb = cx.xb := by rw [← hcx]; rfl
    rw [hcx] at hR0
    subst hcxb
    go_wp2
    go_loopw [28] (fun i wr => ∃ (k : Nat) (own : Nat → Option Tag) (rv : Tag → Value) (S : St), k ≤ n ∧ i = .int .i64 k ∧ Rep cx wr own rv S ∧ RestS V S ∧ cls S = (cs.take k).map (fun c => setZ c.zs) ∧ S.n = k ∧ S.m = k ∧ Below w.heap.size w wr) (fun i _ => n - (intOf i).toNat)
    case atStart => exact ⟨0, _, _, _, Nat.zero_le _, rfl, hR0, st0_rest V, by rw [st0_cls]; simp, rfl, rfl, hbel0⟩
    case round =>
      obtain ⟨k, own, rv, S, hk, rfl, hR, hS, hcl, hSn, hSm, hbw⟩ := hrel
      by_cases hlt : k < n
      · have hltI : (k : Int) < (n : Int) := by omega
        have hk0 : (0 : Int) ≤ (k : Int) := by omega
        obtain ⟨rb, ro, rfl, hrb, hrc, hri⟩ := hz.below hbw k (by omega)
        have hadd := hA cx own rv S wr (cs.getD k default).a (cs.getD k default).zs.length (cs.getD k default).c (cs.getD k default).zs hR (by rw [hcV]; exact hS) rfl (hl k hlt) hri (by rw [hcV]; exact hli k hlt) (by omega) (by omega) (by omega) (by rw [hclo]; exact ht.below hbw)
        obtain ⟨cl, hcle⟩ : ∃ c, cs.getD k default = c := ⟨_, rfl⟩
        have hsq : cs.take (k + 1) = cs.take k ++ [cl] := by rw [← hcle]; exact take_snocC (by omega)
        rw [hcle] at hadd hrc
        go_wp2_with (go_at_call 29; refine hadd.mono ?_)
        rintro e w1 ⟨rfl, own', rv', hR', hfr⟩
        go_wp2
        go_roundw
        case rel =>
          obtain ⟨a1, a2, a3, a4, a5, a6, a7⟩ := addS_n S (setZ cl.zs)
          have hlz : Lits (V + 1) (setZ cl.zs) := fun y hy => hli k hlt y (by rw [hcle]; exact ((setZ_spec cl.zs).2 y).1 hy)
          refine ⟨k + 1, own', rv', _, hlt, by go_num, hR', add_rest hS hlz (setZ_spec cl.zs).1, ?_, by omega, by omega, hbw.trans (hfr.toBelow hR |>.mono (by omega))⟩
          rw [addS_cls, hcl, hsq]
          simp
        case measure => simp [intOf]; omega
      · obtain rfl : k = n := by omega
        go_wp2
        go_ret
        refine ⟨cx, own, rv, S, rfl, hR, hS, ?_, hcV, hclo, hbw, by simp; omega, by simp; omega⟩
        rw [hcl, List.take_of_length_le (by omega)]
        simp
end Go.Proofs.YtagfnjpjmmleiaaDoor
