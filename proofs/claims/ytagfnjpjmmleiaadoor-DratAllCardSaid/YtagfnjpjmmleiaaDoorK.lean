/- Drat: a strings.Builder at this program. -/
import Derived.Test.YtagfnjpjmmleiaaDoorShelf
import Derived.Test.YtagfnjpjmmleiaaDoorChecked
import Derived.WalkKit
import Derived.Lib.ItoaLen
set_option linter.unusedVariables false
set_option linter.unusedSimpArgs false
set_option autoImplicit false
set_option linter.unusedVariables false
namespace Go.Proofs.YtagfnjpjmmleiaaDoor
open Go.Shelf Go.RowKit
set_option maxHeartbeats 1000000 in
set_option maxRecDepth 100000 in
theorem cc_used (b : Nat) (w : World) (h0 : w.cell? ⟨b, 0, none⟩ = some (.pointer (some ⟨b, 0, none⟩))) :
    Calls Tryd.prog 53 #[.pointer (some ⟨b, 0, none⟩)] w fun e w' => e = .returned (.tuple #[]) ∧ w' = w := by
  obtain ⟨j, hj, _⟩ := Option.map_eq_some_iff.1 Tryd.Builder_Extra_169.sizeBuilder
  have hj : Tryd.prog.info? 79 = some j := hj
  go_enter Tryd.func53, Tryd.ntmps53
  go_wp2
  rw [Lib.run_neq_ptr_same w _ Tryd.underlying76 hj]
  go_wp2
  go_end0
  exact ⟨rfl, rfl⟩
set_option maxHeartbeats 1000000 in
set_option maxRecDepth 100000 in
theorem cc_fresh (b : Nat) (w : World) (h0 : w.cell? ⟨b, 0, none⟩ = some (.pointer none)) (hsh : w.shape? b = some (79, 2)) (hfz : w.frozen? ⟨b, 0, none⟩ = false) :
    Calls Tryd.prog 53 #[.pointer (some ⟨b, 0, none⟩)] w fun e w' => e = .returned (.tuple #[]) ∧ w' = w.setCell ⟨b, 0, none⟩ (.pointer (some ⟨b, 0, none⟩)) := by
  obtain ⟨j, hj, hjs⟩ := Option.map_eq_some_iff.1 Tryd.Builder_Extra_169.sizeBuilder
  have hj : Tryd.prog.info? 79 = some j := hj
  go_enter Tryd.func53, Tryd.ntmps53
  go_wp2
  rw [Lib.run_to_unsafe w ⟨b, 0, none⟩ Tryd.underlying76 Tryd.underlying108 hj (by rw [hjs]; decide) hsh (Nat.zero_lt_succ 1)]
  simp only [Result.andThen]
  rw [Oper.upon_value]
  go_wp2
  rw [run_callFunc_extern Tryd.func68 (by kernel_rfl) (by kernel_rfl) (by kernel_rfl) (e := Extern.AbiNoEscape.same) (by kernel_rfl), Lib.run_noEscape]
  simp only [Result.andThen]
  rw [Oper.upon_value]
  go_wp2
  rw [Lib.run_from_unsafe w ⟨b, 0, none⟩ Tryd.underlying108 Tryd.underlying76 hj hsh Tryd.Builder_Extra_169.liesBuilder]
  simp only [Result.andThen]
  rw [Oper.upon_value]
  go_wp2
  go_end0
  exact ⟨rfl, rfl⟩
theorem cc_any (B b : Nat) (bs : List Value) (w : World) (h : Lib.IsBuilder 79 5 B b bs w) :
    Calls Tryd.prog 53 #[.pointer (some ⟨b, 0, none⟩)] w fun e w' => e = .returned (.tuple #[]) ∧ (Lib.BuilderAt 79 5 B b (.pointer (some ⟨b, 0, none⟩)) bs w' ∧ Below B w w') := by
  rcases h with h | h
  · refine (cc_fresh b w h.cell0 h.shape h.frozen0).mono ?_
    rintro e w' ⟨rfl, rfl⟩
    exact ⟨rfl, h.used _, (Below.refl B w).setCell (p := ⟨b, 0, none⟩) h.1 _⟩
  · refine (cc_used b w h.cell0).mono ?_
    rintro e w' ⟨rfl, rfl⟩
    exact ⟨rfl, h, Below.refl B _⟩
/-- the buffer behind an append, and the builder's cell behind the store -/
theorem after_append {B b : Nat} {bs' : List Value} {v v' : Value} {w2 : World} (hB : B ≤ b) (hb2 : w2.heap[b]? = some (.cells #[.pointer (some ⟨b, 0, none⟩), v] 79 (0, 0))) (hown : w2.ownsRow B 5 1 v' bs'.length bs') :
    Lib.BuilderAt 79 5 B b (.pointer (some ⟨b, 0, none⟩)) bs' (w2.setCell ⟨b, 1, none⟩ v') :=
  Lib.BuilderAt.put (T := 79) (e := 5) hB hb2 (bs' := bs') hown (by decide)
set_option maxHeartbeats 2000000 in
set_option maxRecDepth 100000 in
theorem write_byte (B b : Nat) (bs : List Value) (c : Int) (w : World) (h : Lib.IsBuilder 79 5 B b bs w) (hlen : bs.length + 1 ≤ 140737488355328) (hBw : B ≤ w.heap.size) :
    Calls Tryd.prog 46 #[.pointer (some ⟨b, 0, none⟩), .int .u8 c] w fun e w' => e = .returned .nilIface ∧ (Lib.BuilderAt 79 5 B b (.pointer (some ⟨b, 0, none⟩)) (bs ++ [.int .u8 c]) w' ∧ Below B w w') := by
  obtain ⟨i0, hi, hz0, hz1, hz2⟩ := info_parts Tryd.Builder_Extra_169.infoByte
  have hi : Tryd.prog.info? 5 = some i0 := hi
  go_enter Tryd.func46, Tryd.ntmps46
  go_wp2_with (go_at_call 53; refine (cc_any B b bs _ h).mono ?_)
  rintro e w1 ⟨rfl, h1, hb1⟩
  obtain ⟨hB, v, hbk, hown, hne⟩ := h1
  have c0 : w1.cell? ⟨b, 0, none⟩ = some (.pointer (some ⟨b, 0, none⟩)) := by rw [Lib.cell_of_heap hbk]; rfl
  have c1 : w1.cell? ⟨b, 1, none⟩ = some v := by rw [Lib.cell_of_heap hbk]; rfl
  go_wp2_with (at_builtin; refine wpList_append_own _ rfl _ _ 77 rfl B 5 i0 (.int .u8 0) 1 1 Tryd.underlying77 hi hz0 hz1 hz2 rfl (by decide) _ _ _ rfl (hown.alloc _) ⟨w1.heap.size, 0, none⟩ 1 1 [.int .u8 c] rfl rfl ?c1 ?c2 ?c3 ?c4 ?c5 ?_)
  case c1 =>
    intro j u hj
    match j, hj with
    | 0, hj => simp at hj; subst hj; simp [Addr.add]
  case c2 => intro u hu; simp at hu; subst hu; rfl
  case c3 => unfold maxLen; omega
  case c4 => omega
  case c5 => have := hb1.size; simp; omega
  intro v' w2 hown' hgrow _
  have hlt : b < w1.heap.size := by
    rcases Nat.lt_or_ge b w1.heap.size with h' | h'
    · exact h'
    · simp [Array.getElem?_eq_none h'] at hbk
  have hb2 : w2.heap[b]? = some (.cells #[.pointer (some ⟨b, 0, none⟩), v] 79 (0, 0)) := by
    rw [hgrow.block b (by simp; omega) (fun e => hne e.symm), Lib.alloc_old w1 _ b hlt]
    exact hbk
  have d0 : w2.cell? ⟨b, 0, none⟩ = some (.pointer (some ⟨b, 0, none⟩)) := by rw [Lib.cell_of_heap hb2]; rfl
  have d1 : w2.cell? ⟨b, 1, none⟩ = some v := by rw [Lib.cell_of_heap hb2]; rfl
  have f1 : w2.frozen? ⟨b, 1, none⟩ = false := Lib.frozen_of_heap hb2 1
  obtain ⟨g, cap, rfl⟩ : ∃ g cap, v' = .slice (some ⟨g, 0, none⟩) (bs.length + 1) cap := by
    rcases hown'.2 with ⟨_, h0⟩ | ⟨g, cap, cur, hv, _⟩
    · omega
    · exact ⟨g, cap, hv⟩
  go_wp2
  go_ret
  refine ⟨rfl, after_append hB hb2 (bs' := bs ++ [.int .u8 c]) (by simpa using hown'), ?_⟩
  exact ((hb1.alloc (by have := hb1.size; omega) _).grown hgrow (by have := hb1.size; simp; omega) (fun k hk => (hown.lt k hk).1)).setCell (p := ⟨b, 1, none⟩) hB _
set_option maxHeartbeats 2000000 in
set_option maxRecDepth 100000 in
theorem write_string (B b : Nat) (bs : List Value) (s : ByteArray) (w : World) (h : Lib.IsBuilder 79 5 B b bs w) (hlen : bs.length + s.size ≤ 140737488355328) (hBw : B ≤ w.heap.size) :
    Calls Tryd.prog 44 #[.pointer (some ⟨b, 0, none⟩), .string s] w fun e w' => e = .returned (.tuple #[.int .i64 s.size, .nilIface]) ∧ (Lib.BuilderAt 79 5 B b (.pointer (some ⟨b, 0, none⟩)) (bs ++ Lib.strCells s) w' ∧ Below B w w') := by
  obtain ⟨i0, hi, hz0, hz1, hz2⟩ := info_parts Tryd.Builder_Extra_169.infoByte
  have hi : Tryd.prog.info? 5 = some i0 := hi
  go_enter Tryd.func44, Tryd.ntmps44
  go_wp2_with (go_at_call 53; refine (cc_any B b bs _ h).mono ?_)
  rintro e w1 ⟨rfl, h1, hb1⟩
  obtain ⟨hB, v, hbk, hown, hne⟩ := h1
  have c0 : w1.cell? ⟨b, 0, none⟩ = some (.pointer (some ⟨b, 0, none⟩)) := by rw [Lib.cell_of_heap hbk]; rfl
  have c1 : w1.cell? ⟨b, 1, none⟩ = some v := by rw [Lib.cell_of_heap hbk]; rfl
  go_wp2_with (at_builtin; refine Lib.wpList_append_own_string _ rfl _ _ 77 9 rfl B 5 i0 Tryd.underlying77 Tryd.underlying9 hi hz0 hz1 hz2 _ _ _ rfl hown s rfl ?c3 ?c4 ?c5 ?_)
  case c3 => unfold maxLen; omega
  case c4 => omega
  case c5 => have := hb1.size; omega
  intro v' w2 hown' hgrow _
  have hlt : b < w1.heap.size := by
    rcases Nat.lt_or_ge b w1.heap.size with h' | h'
    · exact h'
    · simp [Array.getElem?_eq_none h'] at hbk
  have hb2 : w2.heap[b]? = some (.cells #[.pointer (some ⟨b, 0, none⟩), v] 79 (0, 0)) := by
    rw [hgrow.block b hlt (fun e => hne e.symm)]
    exact hbk
  have d0 : w2.cell? ⟨b, 0, none⟩ = some (.pointer (some ⟨b, 0, none⟩)) := by rw [Lib.cell_of_heap hb2]; rfl
  have d1 : w2.cell? ⟨b, 1, none⟩ = some v := by rw [Lib.cell_of_heap hb2]; rfl
  have f1 : w2.frozen? ⟨b, 1, none⟩ = false := Lib.frozen_of_heap hb2 1
  obtain ⟨ao, n', cap, rfl⟩ : ∃ ao n' cap, v' = .slice ao n' cap := by
    rcases hown'.2 with ⟨hv, _⟩ | ⟨g, cap, cur, hv, _⟩
    · exact ⟨_, _, _, hv⟩
    · exact ⟨_, _, _, hv⟩
  go_wp2
  go_ret2
  refine ⟨rfl, after_append hB hb2 (bs' := bs ++ Lib.strCells s) (by simpa [Lib.strCells_length] using hown'), ?_⟩
  exact (hb1.grown hgrow (by have := hb1.size; omega) (fun k hk => (hown.lt k hk).1)).setCell (p := ⟨b, 1, none⟩) hB _
end Go.Proofs.YtagfnjpjmmleiaaDoor
/- Drat: a clause as a text. -/
set_option autoImplicit false
set_option linter.unusedVariables false
namespace Go.Proofs.YtagfnjpjmmleiaaDoor
open Go.Shelf Go.RowKit
/-- a clause's text -/
def keyOf (zs : List Int) : List UInt8 := zs.flatMap fun z => Lib.itoa z ++ [32]
theorem keyOf_snoc (zs : List Int) (z : Int) : keyOf (zs ++ [z]) = keyOf zs ++ (Lib.itoa z ++ [32]) := by simp [keyOf]
theorem grown_at {w : World} {k b : Nat} {os : Array Obj} {o : Obj} (h : w.heap[b]? = some o) : (Go.Sort.grow (w.drewN k) os).heap[b]? = some o := by
  have hlt := (Array.getElem?_eq_some_iff.1 h).1
  show (w.heap ++ os)[b]? = some o
  rw [Array.getElem?_append_left hlt]; exact h
theorem builder_grow {B b k : Nat} {bs : List Value} {w : World} {os : Array Obj} (h : Lib.IsBuilder 79 5 B b bs w) : Lib.IsBuilder 79 5 B b bs (Go.Sort.grow (w.drewN k) os) := by
  have key : ∀ p, Lib.BuilderAt 79 5 B b p bs w → Lib.BuilderAt 79 5 B b p bs (Go.Sort.grow (w.drewN k) os) := by
    rintro p ⟨hB, v, hb, ⟨hl, hown⟩, hne⟩
    refine ⟨hB, v, grown_at hb, ⟨hl, ?_⟩, hne⟩
    rcases hown with h | ⟨g, cap, cur, h1, h2, h3, h4⟩
    · exact .inl h
    · exact .inr ⟨g, cap, cur, h1, h2, grown_at h3, h4⟩
  exact h.elim (fun x => .inl (key _ x)) (fun x => .inr (key _ x))
theorem below_grow {B k : Nat} {w wr : World} {os : Array Obj} (h : Below B w wr) (hB : B ≤ w.heap.size) : Below B w (Go.Sort.grow (wr.drewN k) os) := by
  refine ⟨h.os, h.tape, h.output, ?_, fun i hi => ?_⟩
  · show w.heap.size ≤ (wr.heap ++ os).size
    have := h.size
    simp; omega
  · show (wr.heap ++ os)[i]? = _
    have := h.size
    rw [Array.getElem?_append_left (by omega)]; exact h.block i hi
theorem strCells_byte (l : List UInt8) : Lib.strCells ⟨l.toArray⟩ = Lib.byteCells l := by
  simp [Lib.strCells, Lib.byteCells]
theorem keyOf_len (zs : List Int) (hz : ∀ z ∈ zs, -1000000000 ≤ z ∧ z ≤ 1000000000) : (keyOf zs).length ≤ 22 * zs.length := by
  induction zs with
  | nil => simp [keyOf]
  | cons z zs ih =>
    have h1 := hz z (List.mem_cons_self ..)
    have h2 := Lib.itoa_length_le z (by omega) (by omega)
    have h3 := ih fun x hx => hz x (List.mem_cons_of_mem _ hx)
    simp only [keyOf, List.flatMap_cons, List.length_append, List.length_cons, List.length_nil] at h3 ⊢
    omega
set_option maxHeartbeats 4000000 in
set_option maxRecDepth 1000000 in
theorem key_walk (b off n c : Nat) (zs : List Int) (w : World) (hn : zs.length = n) (hlen : n ≤ 1000000) (hb : b < w.heap.size)
    (hz : ∀ j, j < n → -1000000000 ≤ zs.getD j 0 ∧ zs.getD j 0 ≤ 1000000000)
    (hc : ∀ j, j < n → w.cell? ⟨b, off + j, none⟩ = some (.int .i64 (zs.getD j 0)))
    (htab : ∀ wr, Below w.heap.size w wr → Lib.TabIs Tryd.prog wr "internal/strconv.uint64pow10" .u64 Lib.pow10Tab) :
    Calls Tryd.prog 36 #[.slice (some ⟨b, off, none⟩) n c] w fun e w' => e = .returned (.string ⟨(keyOf zs).toArray⟩) ∧ Below w.heap.size w w' := by
  go_enter Tryd.func36, Tryd.ntmps36
  go_wp2
  go_loopw [8] (fun i wr => ∃ k : Nat, k ≤ n ∧ i = .int .i64 k ∧ Lib.IsBuilder 79 5 w.heap.size w.heap.size (Lib.byteCells (keyOf (zs.take k))) wr ∧ Below w.heap.size w wr) (fun i _ => n - (intOf i).toNat)
  case atStart =>
    refine ⟨0, Nat.zero_le _, rfl, ?_, (Below.refl _ w).alloc (Nat.le_refl _) _⟩
    have := Lib.fresh_isBuilder 79 5 w
    simpa [keyOf, Lib.byteCells] using this
  case round =>
    obtain ⟨k, hk, rfl, hI, hbw⟩ := hrel
    have hcx : k < n → wr.cell? ⟨b, off + k, none⟩ = some (.int .i64 (zs.getD k 0)) := fun h => (hbw.cell (by exact hb)).trans (hc k h)
    have hkl : (keyOf (zs.take k)).length ≤ 22 * k := by
      have := keyOf_len (zs.take k) fun z hzm => by
        obtain ⟨j, hj, rfl⟩ := List.mem_iff_getElem.1 hzm
        have hj' : j < n := by simp at hj; omega
        have := hz j hj'
        rw [List.getD_eq_getElem?_getD, List.getElem?_eq_getElem (by omega)] at this
        simpa using this
      simp at this; omega
    by_cases hlt : k < n
    · replace hcx := hcx hlt
      have hz0 := hz k hlt
      obtain ⟨x, hx⟩ : ∃ x, zs.getD k 0 = x := ⟨_, rfl⟩
      rw [hx] at hcx hz0
      go_wp2_with (go_at_call 45; refine (Tryd.strconv_Itoa x (by omega) (by omega) _ (htab _ hbw)).mono ?_)
      rintro e w1 ⟨rfl, q, os, rfl⟩
      have hI1 := builder_grow (k := q) (os := os) hI
      have hb1 := below_grow (k := q) (os := os) hbw (Nat.le_refl _)
      have hil := Lib.itoa_length_le x (by omega) (by omega)
      have hsz : (⟨(Lib.itoa x).toArray⟩ : ByteArray).size = (Lib.itoa x).length := by simp [ByteArray.size]
      have hl2 : (Lib.byteCells (keyOf (zs.take k))).length + (⟨(Lib.itoa x).toArray⟩ : ByteArray).size ≤ 140737488355328 := by rw [Lib.byteCells_length, hsz]; omega
      have hl3 : (Lib.byteCells (keyOf (zs.take k)) ++ Lib.strCells ⟨(Lib.itoa x).toArray⟩).length + 1 ≤ 140737488355328 := by rw [List.length_append, Lib.byteCells_length, strCells_byte, Lib.byteCells_length]; omega
      go_wp2_with (go_at_call 44; refine (write_string w.heap.size w.heap.size _ _ _ hI1 hl2 hb1.size).mono ?_)
      rintro e w2 ⟨rfl, hI2, hb2⟩
      have hb2 := hb1.trans hb2
      go_wp2_with (go_at_call 46; refine (write_byte w.heap.size w.heap.size _ _ _ (.inr hI2) hl3 hb2.size).mono ?_)
      rintro e w3 ⟨rfl, hI3, hb3⟩
      have hb3 := hb2.trans hb3
      go_wp2
      go_roundw
      case rel =>
        refine ⟨k + 1, hlt, by simp, ?_, hb3⟩
        have e1 : zs.take (k + 1) = zs.take k ++ [x] := by
          rw [← hx, List.take_add_one, List.getD_eq_getElem?_getD, List.getElem?_eq_getElem (by omega)]; rfl
        rw [e1, keyOf_snoc, Lib.byteCells_append, Lib.byteCells_append]
        rw [strCells_byte, List.append_assoc] at hI3
        exact .inr hI3
      case measure => simp [intOf]; omega
    · have e0 : k = n := by omega
      subst e0
      have e1 : zs.take k = zs := by rw [← hn]; exact List.take_length
      rw [e1] at hI
      go_wp2_with (go_at_call 47; refine (Tryd.Builder_String_any w.heap.size w.heap.size _ _ hI hbw.size).mono ?_)
      rintro e w1 ⟨rfl, hb1⟩
      go_wp2
      go_ret
      exact ⟨rfl, hbw.trans hb1⟩
end Go.Proofs.YtagfnjpjmmleiaaDoor
/- Drat: the text of no literals. -/
set_option autoImplicit false
set_option linter.unusedVariables false
namespace Go.Proofs.YtagfnjpjmmleiaaDoor
open Go.Shelf Go.RowKit
set_option maxHeartbeats 4000000 in
set_option maxRecDepth 1000000 in
theorem key_nil (a : Option Addr) (c : Nat) (w : World) :
    Calls Tryd.prog 36 #[.slice a 0 c] w fun e w' => e = .returned (.string ⟨(keyOf []).toArray⟩) ∧ Below w.heap.size w w' := by
  go_enter Tryd.func36, Tryd.ntmps36
  go_wp2
  go_loopw [8] (fun i wr => i = .int .i64 0 ∧ Lib.IsBuilder 79 5 w.heap.size w.heap.size (Lib.byteCells (keyOf [])) wr ∧ Below w.heap.size w wr) (fun i _ => 0 - (intOf i).toNat)
  case atStart =>
    refine ⟨rfl, ?_, (Below.refl _ w).alloc (Nat.le_refl _) _⟩
    have := Lib.fresh_isBuilder 79 5 w
    simpa [keyOf, Lib.byteCells] using this
  case round =>
    obtain ⟨rfl, hI, hbw⟩ := hrel
    go_wp2_with (go_at_call 47; refine (Tryd.Builder_String_any w.heap.size w.heap.size _ _ hI hbw.size).mono ?_)
    rintro e w1 ⟨rfl, hb1⟩
    go_wp2
    go_ret
    exact ⟨rfl, hbw.trans hb1⟩
end Go.Proofs.YtagfnjpjmmleiaaDoor
