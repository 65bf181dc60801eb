/- Drat: a clause's text, wherever it lies. -/
import Derived.Test.YtagfnjpjmmleiaaDoorTL
import Derived.Test.YtagfnjpjmmleiaaDoorK
set_option linter.unusedVariables false
set_option linter.unusedSimpArgs false
set_option autoImplicit false
set_option linter.unusedVariables false
set_option linter.unusedSimpArgs false
namespace Go.Proofs.YtagfnjpjmmleiaaDoor
open Go.Shelf Go.RowKit
def keyB (zs : List Int) : ByteArray := ⟨(keyOf zs).toArray⟩
theorem key_lit {zs : List Int} (hz : ∀ z ∈ zs, -1000000000 ≤ z ∧ z ≤ 1000000000) (hl : zs.length ≤ 1000000) : Go.keyOf Tryd.prog 9 (.string (keyB zs)) = some (keyL zs) := by
  have h1 := keyOf_len zs hz
  have := Go.WideMaps.keyOf_string_mk Tryd.underlying9 (s := keyB zs) (by show (keyOf zs).toArray.size ≤ _; simp only [List.size_toArray]; unfold maxLen; omega)
  rw [this]; rfl
/-- a text of a clause, wherever the clause lies -/
theorem key_any (a : Option Addr) (n c : Nat) (zs : List Int) (w : World) (hn : zs.length = n) (hn9 : n ≤ 1000000) (hi : Ints w a zs) (hz : ∀ z ∈ zs, -1000000000 ≤ z ∧ z ≤ 1000000000) {B : Nat} (hB : B ≤ w.heap.size) (ht : Tab B w) :
    Calls Tryd.prog 36 #[.slice a n c] w fun e w' => e = .returned (.string (keyB zs)) ∧ Below w.heap.size w w' := by
  rcases Nat.eq_zero_or_pos n with rfl | h0
  · obtain rfl : zs = [] := List.eq_nil_of_length_eq_zero hn
    exact key_nil a c w
  · obtain ⟨b, off, rfl, hb, _⟩ := hi 0 (by omega)
    refine key_walk b off n c zs w hn hn9 hb (fun j hj => ?_) (fun j hj => ?_) fun wr hb => ht wr (hb.mono hB)
    · rw [List.getD_eq_getElem?_getD, List.getElem?_eq_getElem (by omega)]
      exact hz _ (List.getElem_mem _)
    · obtain ⟨b', off', e, _, hc⟩ := hi j (by omega)
      cases e; exact hc
/-- a row that is owned, as numbers -/
theorem owns_ints {w : World} {lo n : Nat} {v : Value} {zs : List Int} (h : w.ownsRow lo 3 1 v n (intC zs)) : ∃ a cap, v = .slice a n cap ∧ zs.length = n ∧ Ints w a zs ∧ ∀ ad, a = some ad → ∃ g, ad = ⟨g, 0, none⟩ ∧ v.ownBlock = some g := by
  have hl : zs.length = n := by have := h.1; rw [intC_length] at this; omega
  rcases h.2 with ⟨e1, e2⟩ | ⟨g, cap, cur, e1, hb, hg, _⟩
  · exact ⟨none, 0, by rw [e1, e2], hl, fun j hj => by omega, fun ad e => (by cases e)⟩
  · refine ⟨_, cap, e1, hl, fun j hj => ⟨g, 0, rfl, (Array.getElem?_eq_some_iff.1 hg).1, ?_⟩, fun ad e => (by cases e; exact ⟨g, rfl, by rw [e1]; rfl⟩)⟩
    rw [e1] at h
    rw [Nat.zero_add, h.cellAt j (by omega)]
    unfold intC
    rw [List.getElem?_map, List.getD_eq_getElem?_getD, List.getElem?_eq_getElem hj]; rfl
end Go.Proofs.YtagfnjpjmmleiaaDoor
