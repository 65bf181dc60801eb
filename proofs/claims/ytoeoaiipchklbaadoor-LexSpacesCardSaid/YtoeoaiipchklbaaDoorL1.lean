/- The program's lexer, function by function: what is looked for in a text. -/
import Derived.Test.YtoeoaiipchklbaaDoorE6
import Derived.Test.YtoeoaiipchklbaaDoorProg
import Derived.WalkKit
import Derived.Lib.Bytealg
import Derived.Laws.Externs
set_option linter.unusedVariables false
set_option autoImplicit false
set_option linter.unusedVariables false
set_option maxRecDepth 100000
namespace Go.Proofs.YtoeoaiipchklbaaDoor
noncomputable section
open Go.X
def masks : List Nat := [0, 0, 0, 619291140563595642605270003, 73786985092005575667, 1496577676626844941316759649069909349561512199679987, 35184372561351, 9223372045444713459, 87112702613583144066541089075137959982835, 107, 4406653225469, 318170008762756426460576158717, 5, 4297074931, 189, 277, 261, 2163, 495, 605053205618240228819005, 680585543596606153914615586681669582835, 37469, 157, 5, 32781, 319388530210577016060112871421, 147573987774056898573, 5, 23139202253471526940700806777996417435133, 5, 2147483699, 19, 2252095092719645, 5, 5, 229, 131613, 353402329150045091625576273465577459, 100712979, 2111139645345779, 229, 19, 19, 4349, 8307, 5592435, 18014402804449523, 19, 19, 1398109, 1298074253319337746486915690530803, 39614383488875302838941755379]
def mask (f : Nat) : Nat := Option.rec 0 (fun x => x) (lget masks f)
def C0 : Cfg := cfgN true mask (fun _ => none)
def F : Nat := 100000

def isL (c : Nat) : Bool := cond (Nat.ble 97 c) (Nat.ble c 122) false || (cond (Nat.ble 65 c) (Nat.ble c 90) false || Nat.beq c 95)
def isD (c : Nat) : Bool := cond (Nat.ble 48 c) (Nat.ble c 57) false
def isW (c : Nat) : Bool := isL c || isD c
/-- the first place from i on at which a byte is not as p says -/
def scan (p : Nat → Bool) (v : Nat) : Nat → Nat → Nat
  | 0, i => i
  | f + 1, i => cond (p (byteAt v i)) (scan p v f (i + 1)) i
theorem scan_yes {p : Nat → Bool} {v n i : Nat} (h : i < n) (hp : p (byteAt v i) = true) : scan p v (n - i) i = scan p v (n - (i + 1)) (i + 1) := by
  have : n - i = (n - (i + 1)) + 1 := by omega
  rw [this, scan, hp]; rfl
theorem scan_no {p : Nat → Bool} {v n i : Nat} (hp : i < n → p (byteAt v i) = false) : scan p v (n - i) i = i := by
  by_cases h : i < n
  · have : n - i = (n - (i + 1)) + 1 := by omega
    rw [this, scan, hp h]; rfl
  · have : n - i = 0 := by omega
    rw [this]; rfl
def maxI : Nat := 9223372036854775807
/-! Tests of a byte -/
def fB (p : Nat → Bool) (args : List AV) (h : H) : Option (Bool × AV × H) := match args with
  | [.int .u8 (.ofNat c)] => some (true, .bool (p c), h)
  | _ => none
def C1 : Cfg := (C0.addCon 29 (conF (fB isL))).addCon 27 (conF (fB isD))
/-! word -/
def rdr (n v x b : Nat) : H := ⟨T.set T.leaf (.row [.str n v, .int .i64 (.ofNat x), .map 1, .int .i64 (.ofNat b)] 48 true []) 0, 2⟩
def eW (i a : Nat) : Env := T.set (T.set (T.set T.leaf (.ptr 0 0) 0) (.int .i64 (.ofNat a)) 1) (.int .i64 (.ofNat i)) 5
structure SW where
  i : Nat
  a : Nat
  n : Nat
  v : Nat
  x : Nat
  b : Nat
def lW : LCon := lcE (fun s : SW => s.n ≤ maxI) (fun s => eW s.i s.a) (fun s => rdr s.n s.v s.x s.b) (fun s => (.ext 0, eW (scan isW s.v (s.n - s.i) s.i) s.a, rdr s.n s.v s.x s.b))
def C2 : Cfg := C1.addLc 30 3 lW
end
end Go.Proofs.YtoeoaiipchklbaaDoor
set_option autoImplicit false
set_option maxRecDepth 1000000
namespace Go.Proofs.YtoeoaiipchklbaaDoor
noncomputable section
open Go.X
theorem letter_res (c : Nat) (h : H) (K : KV) : xfun C0 Tryd.prog (xcode C0 Tryd.prog F) 29 [.int .u8 (.ofNat c)] h [] K = (bcase (ltI (Int.ofNat c) (Int.ofNat 97)) (bcase (ltI (Int.ofNat c) (Int.ofNat 65)) (bcase (eqI (Int.ofNat c) (Int.ofNat 95)) (K (AV.bool true) h []) (K (AV.bool false) h [])) (bcase (ltI (Int.ofNat 90) (Int.ofNat c)) (bcase (eqI (Int.ofNat c) (Int.ofNat 95)) (K (AV.bool true) h []) (K (AV.bool false) h [])) (K (AV.bool true) h []))) (bcase (ltI (Int.ofNat 122) (Int.ofNat c)) (bcase (ltI (Int.ofNat c) (Int.ofNat 65)) (bcase (eqI (Int.ofNat c) (Int.ofNat 95)) (K (AV.bool true) h []) (K (AV.bool false) h [])) (bcase (ltI (Int.ofNat 90) (Int.ofNat c)) (bcase (eqI (Int.ofNat c) (Int.ofNat 95)) (K (AV.bool true) h []) (K (AV.bool false) h [])) (K (AV.bool true) h []))) (K (AV.bool true) h []))) := by kernel_rfl
theorem digit_res (c : Nat) (h : H) (K : KV) : xfun C0 Tryd.prog (xcode C0 Tryd.prog F) 27 [.int .u8 (.ofNat c)] h [] K = (bcase (ltI (Int.ofNat c) (Int.ofNat 48)) (K (AV.bool false) h []) (bcase (ltI (Int.ofNat 57) (Int.ofNat c)) (K (AV.bool false) h []) (K (AV.bool true) h []))) := by kernel_rfl
theorem word_body (i a n v x b : Nat) (K : KE) : xcode C1 Tryd.prog F 30 (loopC Tryd.prog 30 3) (C1.mask 30) (tmpsN Tryd.prog 30) (eW i a) (rdr n v x b) [] K = (bcase (ltI (Int.ofNat i) (Int.ofNat n)) (bcase (inB (Int.ofNat i) n) (bcase (isL (byteAt v (Int.toNat (Int.ofNat i)))) (bcase (inR Go.IntKind.i64 (Int.ofNat i + Int.ofNat 1)) (K XE.nrm (T.node T.leaf (Option.some (AV.ptr 0 0)) (T.node (T.node T.leaf Option.none (T.node T.leaf (Option.some (AV.int Go.IntKind.i64 (Int.ofNat i + Int.ofNat 1))) T.leaf)) (Option.some (AV.int Go.IntKind.i64 (Int.ofNat a))) (T.node T.leaf Option.none (T.node T.leaf Option.none (T.node T.leaf Option.none (T.node T.leaf (Option.some (AV.bool true)) T.leaf)))))) (H.mk (T.node T.leaf (Option.some (Blk.row [AV.str n v, AV.int Go.IntKind.i64 (Int.ofNat x), AV.map 1, AV.int Go.IntKind.i64 (Int.ofNat b)] 48 true [])) T.leaf) 2) []) False) (bcase (inB (Int.ofNat i) n) (bcase (isD (byteAt v (Int.toNat (Int.ofNat i)))) (bcase (inR Go.IntKind.i64 (Int.ofNat i + Int.ofNat 1)) (K XE.nrm (T.node T.leaf (Option.some (AV.ptr 0 0)) (T.node (T.node T.leaf Option.none (T.node T.leaf (Option.some (AV.int Go.IntKind.i64 (Int.ofNat i + Int.ofNat 1))) T.leaf)) (Option.some (AV.int Go.IntKind.i64 (Int.ofNat a))) (T.node T.leaf Option.none (T.node T.leaf Option.none (T.node T.leaf Option.none (T.node T.leaf (Option.some (AV.bool true)) T.leaf)))))) (H.mk (T.node T.leaf (Option.some (Blk.row [AV.str n v, AV.int Go.IntKind.i64 (Int.ofNat x), AV.map 1, AV.int Go.IntKind.i64 (Int.ofNat b)] 48 true [])) T.leaf) 2) []) False) (K (XE.ext 0) (T.node T.leaf (Option.some (AV.ptr 0 0)) (T.node (T.node T.leaf Option.none (T.node T.leaf (Option.some (AV.int Go.IntKind.i64 (Int.ofNat i))) T.leaf)) (Option.some (AV.int Go.IntKind.i64 (Int.ofNat a))) (T.node T.leaf Option.none (T.node T.leaf Option.none (T.node T.leaf Option.none (T.node T.leaf (Option.some (AV.bool false)) T.leaf)))))) (H.mk (T.node T.leaf (Option.some (Blk.row [AV.str n v, AV.int Go.IntKind.i64 (Int.ofNat x), AV.map 1, AV.int Go.IntKind.i64 (Int.ofNat b)] 48 true [])) T.leaf) 2) [])) False)) False) (K (XE.ext 0) (T.node T.leaf (Option.some (AV.ptr 0 0)) (T.node (T.node T.leaf Option.none (T.node T.leaf (Option.some (AV.int Go.IntKind.i64 (Int.ofNat i))) T.leaf)) (Option.some (AV.int Go.IntKind.i64 (Int.ofNat a))) (T.node T.leaf Option.none (T.node T.leaf Option.none (T.node T.leaf Option.none (T.node T.leaf (Option.some (AV.bool false)) T.leaf)))))) (H.mk (T.node T.leaf (Option.some (Blk.row [AV.str n v, AV.int Go.IntKind.i64 (Int.ofNat x), AV.map 1, AV.int Go.IntKind.i64 (Int.ofNat b)] 48 true [])) T.leaf) 2) [])) := by kernel_rfl
theorem word_res (a n v x b : Nat) (K : KV) : xfun C2 Tryd.prog (xcode C2 Tryd.prog F) 30 [.ptr 0 0, .int .i64 (.ofNat a)] (rdr n v x b) [] K = (∃ s, Nat.le (SW.n s) maxI ∧ (Option.some (AV.ptr 0 0) = Option.some (AV.ptr 0 0) ∧ True ∧ Option.some (AV.int Go.IntKind.i64 (Int.ofNat a)) = Option.some (AV.int Go.IntKind.i64 (Int.ofNat s.2)) ∧ (True ∧ Option.some (AV.int Go.IntKind.i64 (Int.ofNat a)) = Option.some (AV.int Go.IntKind.i64 (Int.ofNat s.1)) ∧ True ∧ True) ∧ True) ∧ 2 = 2 ∧ (Option.some (Blk.row [AV.str n v, AV.int Go.IntKind.i64 (Int.ofNat x), AV.map 1, AV.int Go.IntKind.i64 (Int.ofNat b)] 48 true []) = Option.some (Blk.row [AV.str s.3 s.4, AV.int Go.IntKind.i64 (Int.ofNat s.5), AV.map 1, AV.int Go.IntKind.i64 (Int.ofNat s.6)] 48 true []) ∧ True ∧ True) ∧ bcase (inR Go.IntKind.i64 (Int.ofNat (scan isW s.4 (s.3 - s.1) s.1) - Int.ofNat s.2)) (K (AV.int Go.IntKind.i64 (Int.ofNat (scan isW s.4 (s.3 - s.1) s.1) - Int.ofNat s.2)) (H.mk (T.node T.leaf (Option.some (Blk.row [AV.str s.3 s.4, AV.int Go.IntKind.i64 (Int.ofNat s.5), AV.map 1, AV.int Go.IntKind.i64 (Int.ofNat s.6)] 48 true [])) T.leaf) 2) []) False) := by kernel_rfl
end
end Go.Proofs.YtoeoaiipchklbaaDoor
/- The program's lexer: tests of a byte, names. -/
set_option autoImplicit false
set_option linter.unusedVariables false
set_option maxRecDepth 100000
namespace Go.Proofs.YtoeoaiipchklbaaDoor
noncomputable section
open Go.X
theorem isL_iff (c : Nat) : isL c = decide (97 ≤ c ∧ c ≤ 122 ∨ 65 ≤ c ∧ c ≤ 90 ∨ c = 95) := by
  unfold isL; rw [bleD, bleD, bleD, bleD, beqD, Bool.eq_iff_iff]
  by_cases h1 : 97 ≤ c <;> by_cases h2 : 65 ≤ c <;> simp [h1, h2]
theorem isD_iff (c : Nat) : isD c = decide (48 ≤ c ∧ c ≤ 57) := by
  unfold isD; rw [bleD, bleD, Bool.eq_iff_iff]
  by_cases h1 : 48 ≤ c <;> simp [h1]
theorem goodC0 : X.Good C0 Tryd.prog := goodN _ _ _ _
theorem letter_ok {gl : Glob} (args : List AV) (h : H) (v : AV) (h' : H) (ds : List Bool) (K : KV) (hf : fB isL args h = some (true, v, h')) (hK : K v h' ds) : CallOK Tryd.prog gl 29 args h K := by
  unfold fB at hf
  split at hf <;> try (cases hf; done)
  rename_i c
  simp only [Option.some.injEq, Prod.mk.injEq] at hf
  obtain ⟨-, rfl, rfl⟩ := hf
  refine frame_pure goodC0 rfl (fuel := F) (ds1 := []) rfl rfl ⟨Eq.mpr (letter_res c _ _) ?_⟩ hK
  refine bcase_mk (fun h1 => ?_) (fun h1 => ?_)
  · refine bcase_mk (fun h2 => ?_) (fun h2 => ?_)
    · refine bcase_mk (fun h3 => ?_) (fun h3 => ?_) <;> (refine bool_eq ?_; simp only [ltN, eqN, decide_eq_true_iff, decide_eq_false_iff_not] at h1 h2 h3; rw [isL_iff]; symm; first | (rw [decide_eq_true_iff]; omega) | (rw [decide_eq_false_iff_not]; omega))
    · refine bcase_mk (fun h4 => ?_) (fun h4 => ?_)
      · refine bcase_mk (fun h3 => ?_) (fun h3 => ?_) <;> (refine bool_eq ?_; simp only [ltN, eqN, decide_eq_true_iff, decide_eq_false_iff_not] at h1 h2 h3 h4; rw [isL_iff]; symm; first | (rw [decide_eq_true_iff]; omega) | (rw [decide_eq_false_iff_not]; omega))
      · refine bool_eq ?_; simp only [ltN, decide_eq_true_iff, decide_eq_false_iff_not] at h1 h2 h4; rw [isL_iff]; symm; rw [decide_eq_true_iff]; omega
  · refine bcase_mk (fun h5 => ?_) (fun h5 => ?_)
    · refine bcase_mk (fun h2 => ?_) (fun h2 => ?_)
      · refine bcase_mk (fun h3 => ?_) (fun h3 => ?_) <;> (refine bool_eq ?_; simp only [ltN, eqN, decide_eq_true_iff, decide_eq_false_iff_not] at h1 h2 h3 h5; rw [isL_iff]; symm; first | (rw [decide_eq_true_iff]; omega) | (rw [decide_eq_false_iff_not]; omega))
      · refine bcase_mk (fun h4 => ?_) (fun h4 => ?_)
        · refine bcase_mk (fun h3 => ?_) (fun h3 => ?_) <;> (refine bool_eq ?_; simp only [ltN, eqN, decide_eq_true_iff, decide_eq_false_iff_not] at h1 h2 h3 h4 h5; rw [isL_iff]; symm; first | (rw [decide_eq_true_iff]; omega) | (rw [decide_eq_false_iff_not]; omega))
        · refine bool_eq ?_; simp only [ltN, decide_eq_true_iff, decide_eq_false_iff_not] at h1 h2 h4 h5; rw [isL_iff]; symm; rw [decide_eq_true_iff]; omega
    · refine bool_eq ?_; simp only [ltN, decide_eq_false_iff_not] at h1 h5; rw [isL_iff]; symm; rw [decide_eq_true_iff]; omega
theorem digit_ok {gl : Glob} (args : List AV) (h : H) (v : AV) (h' : H) (ds : List Bool) (K : KV) (hf : fB isD args h = some (true, v, h')) (hK : K v h' ds) : CallOK Tryd.prog gl 27 args h K := by
  unfold fB at hf
  split at hf <;> try (cases hf; done)
  rename_i c
  simp only [Option.some.injEq, Prod.mk.injEq] at hf
  obtain ⟨-, rfl, rfl⟩ := hf
  refine frame_pure goodC0 rfl (fuel := F) (ds1 := []) rfl rfl ⟨Eq.mpr (digit_res c _ _) ?_⟩ hK
  refine bcase_mk (fun h1 => ?_) (fun h1 => ?_)
  · refine bool_eq ?_; simp only [ltN, decide_eq_true_iff] at h1; rw [isD_iff]; symm; rw [decide_eq_false_iff_not]; omega
  · refine bcase_mk (fun h2 => ?_) (fun h2 => ?_)
    · refine bool_eq ?_; simp only [ltN, decide_eq_true_iff] at h2; rw [isD_iff]; symm; rw [decide_eq_false_iff_not]; omega
    · refine bool_eq ?_; simp only [ltN, decide_eq_false_iff_not] at h1 h2; rw [isD_iff]; symm; rw [decide_eq_true_iff]; omega
theorem goodC1 : X.Good C1 Tryd.prog :=
  (goodC0.addCon 29 _ (conF_spl _) (conF_ok letter_ok)).addCon 27 _ (conF_spl _) (conF_ok digit_ok)

/-- one round of word -/
theorem absW {i' a n v x b : Nat} {env : Env} (h : env = T.set (eW i' a) (.bool true) 31 ∨ env = T.set (eW i' a) (.bool false) 31) : Abs 2 (sg 2 []) (eW i' a) (rdr n v x b) env (rdr n v x b) := by
  refine abs_mk rfl rfl rfl ?_ ?_
  · rcases h with rfl | rfl
    · exact ⟨⟨rfl, rfl⟩, trivial, ⟨rfl, rfl⟩, ⟨trivial, ⟨rfl, rfl⟩, trivial, trivial⟩, trivial⟩
    · exact ⟨⟨rfl, rfl⟩, trivial, ⟨rfl, rfl⟩, ⟨trivial, ⟨rfl, rfl⟩, trivial, trivial⟩, trivial⟩
  · exact ⟨⟨rfl, rfl, _, rfl, rfl⟩, trivial, trivial⟩
theorem goodC2 : X.Good C2 Tryd.prog := by
  refine goodC1.addE (n0 := 2) (μ := fun s : SW => s.n - s.i) (fuel := F) (by kernel_rfl) ?_ ?_ ?_
  · intro s _
    exact ⟨rfl, Nat.le_refl _, ⟨rfl, trivial, rfl, ⟨trivial, rfl, trivial, trivial⟩, trivial⟩, ⟨rfl, trivial, trivial⟩⟩
  · intro s hok
    refine ⟨Eq.mpr (word_body s.i s.a s.n s.v s.x s.b _) ?_⟩
    have hn : s.n ≤ 9223372036854775807 := hok
    refine bcase_mk (fun h1 => ?_) (fun h1 => ?_)
    · rw [ltN, decide_eq_true_iff] at h1
      refine bcase_t (inB_of h1) (bcase_mk (fun h2 => ?_) (fun h2 => ?_))
      · refine bcase_t (inR_add (by omega)) ?_
        refine ⟨{ s with i := s.i + 1 }, [], hok, by dsimp only; omega, ?_, absW (.inl rfl)⟩
        have : isW (byteAt s.v s.i) = true := by unfold isW; rw [show isL (byteAt s.v s.i) = true from h2]; rfl
        dsimp only; rw [scan_yes h1 this]
      · refine bcase_t (inB_of h1) (bcase_mk (fun h3 => ?_) (fun h3 => ?_))
        · refine bcase_t (inR_add (by omega)) ?_
          refine ⟨{ s with i := s.i + 1 }, [], hok, by dsimp only; omega, ?_, absW (.inl rfl)⟩
          have : isW (byteAt s.v s.i) = true := by unfold isW; rw [show isD (byteAt s.v s.i) = true from h3]; simp
          dsimp only; rw [scan_yes h1 this]
        · refine ⟨[], rfl, ?_⟩
          have : isW (byteAt s.v s.i) = false := by unfold isW; rw [show isD (byteAt s.v s.i) = false from h3, show isL (byteAt s.v s.i) = false from h2]; rfl
          dsimp only; rw [scan_no fun _ => this]; exact absW (.inr rfl)
    · rw [ltN, decide_eq_false_iff_not] at h1
      refine ⟨[], rfl, ?_⟩
      dsimp only; rw [scan_no fun h => absurd h h1]; exact absW (.inr rfl)
  · intro g i h; cases h
end
end Go.Proofs.YtoeoaiipchklbaaDoor
/- strings.IndexByte, as the executor sees it. -/
set_option autoImplicit false
namespace Go.Proofs.YtoeoaiipchklbaaDoor
theorem run52 (s : ByteArray) (c : Int) (w : World) : (callFunc 52 #[.string s, .int .u8 c]).run Tryd.prog w = .ok (.value (.int .i64 (Lib.indexByte s.data.toList c.toNat.toUInt8))) w := by
  rw [run_callFunc_extern (fn := Tryd.f52) (e := Extern.BytealgIndexByte.indexByte) (by kernel_rfl) (by kernel_rfl) (by kernel_rfl) (by kernel_rfl) (by kernel_rfl)]
  simp [Lib.run_indexByteString]
theorem idx48 (s : ByteArray) (c : Int) (w : World) : Calls Tryd.prog 48 #[.string s, .int .u8 c] w fun e w' => e = .returned (.int .i64 (Lib.indexByte s.data.toList c.toNat.toUInt8)) ∧ w' = w := by
  have hx := run52 s c
  go_enter Tryd.func48, Tryd.ntmps48
  go_wp2
  go_ret
  exact ⟨rfl, rfl⟩
theorem idx42 (s : ByteArray) (c : Int) (w : World) : Calls Tryd.prog 42 #[.string s, .int .u8 c] w fun e w' => e = .returned (.int .i64 (Lib.indexByte s.data.toList c.toNat.toUInt8)) ∧ w' = w := by
  go_enter Tryd.func42, Tryd.ntmps42
  go_wp2_with (go_at_call 48; refine (idx48 _ _ _).mono ?_; rintro e w' ⟨rfl, rfl⟩)
  go_ret
  exact ⟨rfl, rfl⟩
end Go.Proofs.YtoeoaiipchklbaaDoor
/- The program's lexer: names and blanks, as contracts. -/
set_option autoImplicit false
set_option linter.unusedVariables false
set_option maxRecDepth 100000
namespace Go.Proofs.YtoeoaiipchklbaaDoor
noncomputable section
open Go.X
/-- the reader behind a pointer: its text, where it stands, its words' block, its error -/
def rd (h : H) (i : Nat) : Option (Bool × Nat × Nat × Nat × Nat × Nat) := match h.b.get i with
  | some (.row [.str n v, .int .i64 (.ofNat x), .map j, .int .i64 (.ofNat b)] e true []) =>
    some (Bool.and (Nat.beq e 48) (Bool.and (Nat.ble (Nat.succ i) h.next) (Bool.and (Nat.ble (Nat.succ j) h.next) (Bool.and (Bool.not (Nat.beq i j)) (Nat.ble n maxI)))), n, v, x, j, b)
  | _ => none
theorem rd_some {h : H} {i n v x j b : Nat} (hr : rd h i = some (true, n, v, x, j, b)) :
    h.b.get i = some (.row [.str n v, .int .i64 (.ofNat x), .map j, .int .i64 (.ofNat b)] 48 true []) ∧ n ≤ maxI ∧ i < h.next ∧ j < h.next ∧ i ≠ j := by
  unfold rd at hr
  split at hr <;> try (cases hr; done)
  rename_i n' v' x' j' b' e heq
  simp only [Option.some.injEq, Prod.mk.injEq] at hr
  obtain ⟨hc, rfl, rfl, rfl, rfl, rfl⟩ := hr
  obtain ⟨a1, a2⟩ := and_tt hc
  obtain ⟨a3, a4⟩ := and_tt a2
  obtain ⟨a5, a6⟩ := and_tt a4
  obtain ⟨a7, a8⟩ := and_tt a6
  have e48 := natBeq_iff.1 a1
  subst e48
  refine ⟨heq, Nat.le_of_ble_eq_true a8, ble_lt a3, ble_lt a5, fun e => ?_⟩
  rw [natBeq_iff.2 e] at a7; cases a7
def two (i j : Nat) (k : Nat) : Nat := nm [i, j] k
theorem two_inj {i j : Nat} (h : i ≠ j) : ∀ a b, a < 2 → b < 2 → two i j a = two i j b → a = b := by
  intro a b ha hb e
  match a, b, ha, hb with
  | 0, 0, _, _ => rfl
  | 1, 1, _, _ => rfl
  | 0, 1, _, _ => exact absurd e h
  | 1, 0, _, _ => exact absurd e.symm h
theorem two_low {i j n : Nat} (hi : i < n) (hj : j < n) : ∀ a, a < 2 → two i j a < n := by
  intro a ha
  match a, ha with
  | 0, _ => exact hi
  | 1, _ => exact hj
theorem rdr_see {h : H} {i j n v x b : Nat} (hg : h.b.get i = some (.row [.str n v, .int .i64 (.ofNat x), .map j, .int .i64 (.ofNat b)] 48 true [])) :
    ∀ a k, (rdr n v x b).b.get a = some k → h.b.get (two i j a) = some (renB (two i j) k) :=
  tall_get (t := (rdr n v x b).b) (p := fun a k => h.b.get (two i j a) = some (renB (two i j) k)) ⟨hg, trivial, trivial⟩
theorem rdr_plain (n v x b : Nat) : Plain (rdr n v x b) := ⟨⟨rfl, rfl, rfl, rfl⟩, trivial, trivial⟩

/-! word -/
def wordN (n v a : Nat) : Nat := scan isW v (n - a) a - a
def fWord (args : List AV) (h : H) : Option (Bool × AV × H) := match args with
  | [.ptr i 0, .int .i64 (.ofNat a)] => match rd h i with
    | some (c, n, v, _, _, _) => some (c, .int .i64 (.ofNat (wordN n v a)), h)
    | none => none
  | _ => none
theorem scan_ge (p : Nat → Bool) (v : Nat) : ∀ (f i : Nat), i ≤ scan p v f i
  | 0, i => Nat.le_refl _
  | f + 1, i => by
    rw [scan]
    cases p (byteAt v i) with
    | true => have := scan_ge p v f (i + 1); show i ≤ scan p v f (i + 1); omega
    | false => exact Nat.le_refl _
theorem scan_le (p : Nat → Bool) (v : Nat) : ∀ (f i : Nat), scan p v f i ≤ i + f
  | 0, i => Nat.le_refl _
  | f + 1, i => by
    rw [scan]
    cases p (byteAt v i) with
    | true => have := scan_le p v f (i + 1); show scan p v f (i + 1) ≤ _; omega
    | false => show i ≤ _; omega
theorem word_ok {gl : Glob} (args : List AV) (h : H) (v : AV) (h' : H) (ds : List Bool) (K : KV) (hf : fWord args h = some (true, v, h')) (hK : K v h' ds) : CallOK Tryd.prog gl 30 args h K := by
  unfold fWord at hf
  split at hf <;> try (cases hf; done)
  rename_i i a
  split at hf <;> try (cases hf; done)
  rename_i c n v x j b hr
  simp only [Option.some.injEq, Prod.mk.injEq] at hf
  obtain ⟨rfl, rfl, rfl⟩ := hf
  obtain ⟨g1, g2, g3, g4, g5⟩ := rd_some hr
  refine frame_see (args1 := [.ptr 0 0, .int .i64 (.ofNat a)]) (h1 := rdr n v x b) (V := .int .i64 (.ofNat (wordN n v a))) (ρ := two i j) goodC2 rfl (fuel := F) (ds1 := []) (rdr_plain n v x b) rfl rfl ⟨Eq.mpr (word_res a n v x b _) ?_⟩ (rdr_see g1) (two_inj g5) (two_low g3 g4) hK
  have hm : n ≤ 9223372036854775807 := g2
  by_cases ha : a ≤ n
  · have h1 := scan_ge isW v (n - a) a
    have h2 := scan_le isW v (n - a) a
    refine ⟨⟨a, a, n, v, x, b⟩, g2, ⟨rfl, trivial, rfl, ⟨trivial, rfl, trivial, trivial⟩, trivial⟩, rfl, ⟨rfl, trivial, trivial⟩, bcase_t ?_ ⟨?_, ⟨rfl, trivial, trivial⟩⟩⟩
    · show inR .i64 (Int.ofNat (scan isW v (n - a) a) - Int.ofNat a) = true
      exact inR_sub h1 (by omega)
    show AV.int .i64 (Int.ofNat (scan isW v (n - a) a) - Int.ofNat a) = _
    rw [subN h1]; rfl
  · have h0 : n - a = 0 := by omega
    have hs : scan isW v (n - a) a = a := by rw [h0]; rfl
    refine ⟨⟨a, a, n, v, x, b⟩, g2, ⟨rfl, trivial, rfl, ⟨trivial, rfl, trivial, trivial⟩, trivial⟩, rfl, ⟨rfl, trivial, trivial⟩, bcase_t ?_ ⟨?_, ⟨rfl, trivial, trivial⟩⟩⟩
    · show inR .i64 (Int.ofNat (scan isW v (n - a) a) - Int.ofNat a) = true
      rw [hs, subN (Nat.le_refl a), Nat.sub_self]; rfl
    · show AV.int .i64 (Int.ofNat (scan isW v (n - a) a) - Int.ofNat a) = _
      unfold wordN
      rw [hs, subN (Nat.le_refl a)]
/-! IndexByte -/
def isNot (c x : Nat) : Bool := Bool.not (Nat.beq x c)
def conIdx : Con := fun args h ds K => match args with
  | [.str n v, .int .u8 (.ofNat c)] => Bool.rec False (Bool.rec (K (.int .i64 (.negSucc 0)) h ds) (K (.int .i64 (.ofNat (scan (isNot c) v n 0))) h ds) (Nat.ble (Nat.succ (scan (isNot c) v n 0)) n)) (Nat.ble c 255)
  | _ => False
theorem conIdx_spl (args : List AV) (h : H) (ds : List Bool) : Spl h (fun K => conIdx args h ds K) := by
  unfold conIdx
  split
  · rename_i n v c
    cases hb : Nat.ble c 255 with
    | false => exact fun K hk => hk.elim
    | true => cases hd : Nat.ble (Nat.succ (scan (isNot c) v n 0)) n with
      | false => exact fun K hk => ⟨_, _, _, hk, Nat.le_refl _, fun _ h => h⟩
      | true => exact fun K hk => ⟨_, _, _, hk, Nat.le_refl _, fun _ h => h⟩
  · exact fun K hk => hk.elim
theorem scan_idx (L : List UInt8) (c : Nat) (hc : c ≤ 255) : ∀ (l : List UInt8) (i : Nat), L.drop i = l → scan (isNot c) (pack L) l.length i = if Lib.indexByte l c.toUInt8 = -1 then i + l.length else i + (Lib.indexByte l c.toUInt8).toNat
  | [], i, _ => rfl
  | b :: l, i, h => by
    have hi : L[i]? = some b := by
      have := congrArg (fun l => l[0]?) h
      simpa using this
    have hd : L.drop (i + 1) = l := by
      have := congrArg List.tail h
      simpa using this
    have hg := Lib.indexByte_ge l c.toUInt8
    have hcons : ∀ x, Lib.indexByte (b :: l) x = if b == x then 0 else if Lib.indexByte l x == -1 then -1 else Lib.indexByte l x + 1 := fun _ => rfl
    rw [List.length_cons, scan, byteAt_eq L i b hi, scan_idx L c hc l (i + 1) hd, hcons]
    unfold isNot
    by_cases e : b = c.toUInt8
    · subst e
      have : (c.toUInt8).toNat = c := by simp; omega
      rw [this, Nat.beq_refl]; simp
    · have hne : Nat.beq b.toNat c = false := by
        cases hb : Nat.beq b.toNat c with
        | false => rfl
        | true =>
          have := natBeq_iff.1 hb
          exact absurd (by rw [← this]; simp) e
      have hbe : (b == c.toUInt8) = false := by simpa using e
      rw [hne, hbe]
      simp only [Bool.not_false, cond_true, Bool.false_eq_true, if_false]
      by_cases e2 : Lib.indexByte l c.toUInt8 = -1
      · rw [if_pos e2, e2]; simp; omega
      · rw [if_neg e2]
        have : (Lib.indexByte l c.toUInt8 == -1) = false := by simpa using e2
        rw [this]
        simp only [Bool.false_eq_true, if_false]
        rw [if_neg (by omega)]
        omega
theorem idx_ok {gl : Glob} (args : List AV) (h : H) (ds : List Bool) (K : KV) (hk : conIdx args h ds K) : CallOK Tryd.prog gl 42 args h K := by
  unfold conIdx at hk
  split at hk <;> try exact hk.elim
  rename_i n v c
  have hc : c ≤ 255 ∧ (Bool.rec (K (.int .i64 (.negSucc 0)) h ds) (K (.int .i64 (.ofNat (scan (isNot c) v n 0))) h ds) (Nat.ble (Nat.succ (scan (isNot c) v n 0)) n) : Prop) := by
    cases hb : Nat.ble c 255 with
    | false => rw [hb] at hk; exact hk.elim
    | true => rw [hb] at hk; exact ⟨Nat.le_of_ble_eq_true hb, hk⟩
  obtain ⟨hc, hk⟩ := hc
  intro L w args' U rg hargs r hU
  obtain ⟨s, rfl, hs⟩ : ∃ s, args' = #[.string s, .int .u8 (.ofNat c)] ∧ strOf s = .str n v := by
    cases args' with
    | mk l =>
      cases hargs with | cons _ v1 _ vs h1 h2 =>
      cases h2 with | cons _ v2 _ vs h3 h4 =>
      cases h4
      cases h1 with | str _ _ s hs =>
      cases h3
      exact ⟨s, rfl, hs⟩
  obtain ⟨e1, e2, e3⟩ := strOf_str hs
  have key := scan_idx s.data.toList c hc s.data.toList 0 rfl
  rw [e2, ← e3] at key
  have hg := Lib.indexByte_ge s.data.toList c.toUInt8
  have hlt : Lib.indexByte s.data.toList c.toUInt8 ≠ -1 → (Lib.indexByte s.data.toList c.toUInt8).toNat < n := by
    have : ∀ (l : List UInt8), Lib.indexByte l c.toUInt8 ≠ -1 → (Lib.indexByte l c.toUInt8).toNat < l.length := by
      intro l
      induction l with
      | nil => intro h; exact absurd rfl h
      | cons b l ih =>
        intro h
        have hg := Lib.indexByte_ge l c.toUInt8
        have hcons : ∀ x, Lib.indexByte (b :: l) x = if b == x then 0 else if Lib.indexByte l x == -1 then -1 else Lib.indexByte l x + 1 := fun _ => rfl
        rw [hcons] at h ⊢
        by_cases e : (b == c.toUInt8) = true
        · rw [if_pos e]; simp
        · rw [if_neg e] at h ⊢
          by_cases e2 : (Lib.indexByte l c.toUInt8 == -1) = true
          · rw [if_pos e2] at h; exact absurd rfl h
          · rw [if_neg e2]
            have := ih fun e3 => e2 (by rw [e3]; rfl)
            rw [List.length_cons]; omega
    intro h; have := this _ h; omega
  refine (idx42 s (.ofNat c) w).mono ?_
  rintro e w' ⟨rfl, rfl⟩
  have hcc : (Int.toNat (Int.ofNat c)).toUInt8 = c.toUInt8 := rfl
  rw [hcc]
  by_cases e4 : Lib.indexByte s.data.toList c.toUInt8 = -1
  · rw [if_pos e4] at key
    have : Nat.ble (Nat.succ (scan (isNot c) v n 0)) n = false := by rw [bleD]; simp; omega
    rw [this] at hk
    exact ⟨_, h, ds, L, _, rfl, hk, by rw [e4]; exact .int _ _, r, Step.refl _ _ _⟩
  · rw [if_neg e4] at key
    have hj := hlt e4
    have : Nat.ble (Nat.succ (scan (isNot c) v n 0)) n = true := by rw [bleD]; simp; omega
    rw [this] at hk
    refine ⟨_, h, ds, L, _, rfl, hk, ?_, r, Step.refl _ _ _⟩
    rw [key]
    generalize Lib.indexByte s.data.toList c.toUInt8 = q at *
    have : Int.ofNat (0 + q.toNat) = q := by simp only [Int.ofNat_eq_natCast]; omega
    rw [this]
    exact .int _ _
def C3 : Cfg := (C2.addCon 30 (conF fWord)).addCon 42 conIdx
theorem goodC3 : X.Good C3 Tryd.prog := (goodC2.addCon 30 _ (conF_spl _) (conF_ok word_ok)).addCon 42 _ conIdx_spl idx_ok
end
end Go.Proofs.YtoeoaiipchklbaaDoor
/- The program's lexer: blanks: definitions. -/
set_option autoImplicit false
set_option linter.unusedVariables false
set_option maxRecDepth 100000
namespace Go.Proofs.YtoeoaiipchklbaaDoor
noncomputable section
open Go.X
def isS (c : Nat) : Bool := Bool.or (Nat.beq c 32) (Bool.or (Nat.beq c 9) (Bool.or (Nat.beq c 10) (Nat.beq c 13)))
def dash (v n i : Nat) : Bool := Bool.and (Nat.beq (byteAt v i) 45) (Bool.and (Nat.ble (i + 2) n) (Nat.beq (byteAt v (i + 1)) 45))
def lineE (v n i : Nat) : Nat := scan (isNot 10) v (n - i) i
def blk (v n : Nat) : Nat → Nat → Nat
  | 0, i => i
  | f + 1, i => cond (Nat.ble (i + 1) n) (cond (isS (byteAt v i)) (blk v n f (i + 1)) (cond (dash v n i) (blk v n f (lineE v n i)) i)) i
/-- where the next token begins -/
def bl (v n i : Nat) : Nat := blk v n (n - i) i
def eB : Env := T.set T.leaf (.ptr 0 0) 0
structure SB where
  n : Nat
  v : Nat
  x : Nat
  b : Nat
def okB (s : SB) : Prop := s.n ≤ maxI
def hB (s : SB) : H := rdr s.n s.v s.x s.b
def dB (s : SB) : H := rdr s.n s.v (bl s.v s.n s.x) s.b
def iB (s : SB) : Bool := Nat.ble (Nat.succ (bl s.v s.n s.x)) s.n
def lB : LCon := lcE2 okB (fun s => eB) hB iB (fun s => (.ret, eB, dB s)) (fun s => (.ext 0, eB, dB s))
def C4 : Cfg := C3.addLc 26 1 lB
end
end Go.Proofs.YtoeoaiipchklbaaDoor
set_option autoImplicit false
set_option maxRecDepth 1000000
namespace Go.Proofs.YtoeoaiipchklbaaDoor
noncomputable section
open Go.X
theorem blank_body (n v x b : Nat) (K : KE) : xcode C3 Tryd.prog F 26 (loopC Tryd.prog 26 1) (C3.mask 26) (tmpsN Tryd.prog 26) eB (rdr n v x b) [] K = (bcase (ltI (Int.ofNat x) (Int.ofNat n)) (bcase (inB (Int.ofNat x) n) (bcase (eqI (Int.ofNat (byteAt v (Int.toNat (Int.ofNat x)))) (Int.ofNat 32)) (bcase (inR Go.IntKind.i64 (Int.ofNat x + Int.ofNat 1)) (K XE.nrm (T.node (T.node T.leaf Option.none (T.node T.leaf (Option.some (AV.int Go.IntKind.u8 (Int.ofNat (byteAt v (Int.toNat (Int.ofNat x)))))) T.leaf)) (Option.some (AV.ptr 0 0)) (T.node (T.node T.leaf Option.none (T.node T.leaf Option.none (T.node T.leaf (Option.some (AV.bool true)) T.leaf))) Option.none (T.node T.leaf Option.none (T.node (T.node T.leaf Option.none (T.node T.leaf (Option.some (AV.bool true)) T.leaf)) Option.none T.leaf)))) (H.mk (T.node T.leaf (Option.some (Blk.row [AV.str n v, AV.int Go.IntKind.i64 (Int.ofNat x + Int.ofNat 1), AV.map 1, AV.int Go.IntKind.i64 (Int.ofNat b)] 48 true [])) T.leaf) 2) []) False) (bcase (eqI (Int.ofNat (byteAt v (Int.toNat (Int.ofNat x)))) (Int.ofNat 9)) (bcase (inR Go.IntKind.i64 (Int.ofNat x + Int.ofNat 1)) (K XE.nrm (T.node (T.node T.leaf Option.none (T.node T.leaf (Option.some (AV.int Go.IntKind.u8 (Int.ofNat (byteAt v (Int.toNat (Int.ofNat x)))))) T.leaf)) (Option.some (AV.ptr 0 0)) (T.node (T.node T.leaf Option.none (T.node T.leaf Option.none (T.node T.leaf (Option.some (AV.bool true)) T.leaf))) Option.none (T.node T.leaf Option.none (T.node (T.node T.leaf Option.none (T.node T.leaf (Option.some (AV.bool true)) T.leaf)) Option.none T.leaf)))) (H.mk (T.node T.leaf (Option.some (Blk.row [AV.str n v, AV.int Go.IntKind.i64 (Int.ofNat x + Int.ofNat 1), AV.map 1, AV.int Go.IntKind.i64 (Int.ofNat b)] 48 true [])) T.leaf) 2) []) False) (bcase (eqI (Int.ofNat (byteAt v (Int.toNat (Int.ofNat x)))) (Int.ofNat 10)) (bcase (inR Go.IntKind.i64 (Int.ofNat x + Int.ofNat 1)) (K XE.nrm (T.node (T.node T.leaf Option.none (T.node T.leaf (Option.some (AV.int Go.IntKind.u8 (Int.ofNat (byteAt v (Int.toNat (Int.ofNat x)))))) T.leaf)) (Option.some (AV.ptr 0 0)) (T.node (T.node T.leaf Option.none (T.node T.leaf Option.none (T.node T.leaf (Option.some (AV.bool true)) T.leaf))) Option.none (T.node T.leaf Option.none (T.node (T.node T.leaf Option.none (T.node T.leaf (Option.some (AV.bool true)) T.leaf)) Option.none T.leaf)))) (H.mk (T.node T.leaf (Option.some (Blk.row [AV.str n v, AV.int Go.IntKind.i64 (Int.ofNat x + Int.ofNat 1), AV.map 1, AV.int Go.IntKind.i64 (Int.ofNat b)] 48 true [])) T.leaf) 2) []) False) (bcase (eqI (Int.ofNat (byteAt v (Int.toNat (Int.ofNat x)))) (Int.ofNat 13)) (bcase (inR Go.IntKind.i64 (Int.ofNat x + Int.ofNat 1)) (K XE.nrm (T.node (T.node T.leaf Option.none (T.node T.leaf (Option.some (AV.int Go.IntKind.u8 (Int.ofNat (byteAt v (Int.toNat (Int.ofNat x)))))) T.leaf)) (Option.some (AV.ptr 0 0)) (T.node (T.node T.leaf Option.none (T.node T.leaf Option.none (T.node T.leaf (Option.some (AV.bool true)) T.leaf))) Option.none (T.node T.leaf Option.none (T.node (T.node T.leaf Option.none (T.node T.leaf (Option.some (AV.bool true)) T.leaf)) Option.none T.leaf)))) (H.mk (T.node T.leaf (Option.some (Blk.row [AV.str n v, AV.int Go.IntKind.i64 (Int.ofNat x + Int.ofNat 1), AV.map 1, AV.int Go.IntKind.i64 (Int.ofNat b)] 48 true [])) T.leaf) 2) []) False) (bcase (Nat.ble n n && Nat.ble x n) (bcase (ltI (Int.ofNat (Nat.sub n x)) (Int.ofNat 2)) (K XE.ret (T.node (T.node T.leaf Option.none (T.node T.leaf (Option.some (AV.int Go.IntKind.u8 (Int.ofNat (byteAt v (Int.toNat (Int.ofNat x)))))) T.leaf)) (Option.some (AV.ptr 0 0)) (T.node (T.node T.leaf Option.none (T.node T.leaf Option.none (T.node (T.node T.leaf Option.none (T.node T.leaf (Option.some (AV.bool false)) T.leaf)) (Option.some (AV.bool true)) T.leaf))) Option.none (T.node T.leaf Option.none (T.node (T.node T.leaf Option.none (T.node T.leaf (Option.some (AV.bool false)) T.leaf)) Option.none T.leaf)))) (H.mk (T.node T.leaf (Option.some (Blk.row [AV.str n v, AV.int Go.IntKind.i64 (Int.ofNat x), AV.map 1, AV.int Go.IntKind.i64 (Int.ofNat b)] 48 true [])) T.leaf) 2) []) (bcase (Nat.ble 2 (Nat.sub n x) && true) (bcase (true && Nat.beq (subV (subV v x n) 0 2) 11565) (bcase (Nat.ble n n && Nat.ble x n) (bcase (Nat.ble (Nat.succ (scan (isNot 10) (subV v x n) (Nat.sub n x) 0)) (Nat.sub n x)) (bcase (inR Go.IntKind.i64 (Int.ofNat x + Int.ofNat (scan (isNot 10) (subV v x n) (Nat.sub n x) 0))) (K XE.nrm (T.node (T.node T.leaf Option.none (T.node T.leaf (Option.some (AV.int Go.IntKind.u8 (Int.ofNat (byteAt v (Int.toNat (Int.ofNat x)))))) T.leaf)) (Option.some (AV.ptr 0 0)) (T.node (T.node T.leaf Option.none (T.node T.leaf Option.none (T.node (T.node T.leaf Option.none (T.node T.leaf (Option.some (AV.bool true)) T.leaf)) (Option.some (AV.bool true)) T.leaf))) Option.none (T.node (T.node (T.node (T.node (T.node T.leaf Option.none (T.node T.leaf (Option.some (AV.bool false)) T.leaf)) Option.none T.leaf) Option.none T.leaf) Option.none T.leaf) (Option.some (AV.int Go.IntKind.i64 (Int.ofNat (scan (isNot 10) (subV v x n) (Nat.sub n x) 0)))) (T.node (T.node T.leaf Option.none (T.node T.leaf (Option.some (AV.bool false)) T.leaf)) Option.none T.leaf)))) (H.mk (T.node T.leaf (Option.some (Blk.row [AV.str n v, AV.int Go.IntKind.i64 (Int.ofNat x + Int.ofNat (scan (isNot 10) (subV v x n) (Nat.sub n x) 0)), AV.map 1, AV.int Go.IntKind.i64 (Int.ofNat b)] 48 true [])) T.leaf) 2) []) False) (bcase (inR Go.IntKind.i64 (Int.ofNat n - Int.ofNat x)) (bcase (inR Go.IntKind.i64 (Int.ofNat x + (Int.ofNat n - Int.ofNat x))) (K XE.nrm (T.node (T.node T.leaf Option.none (T.node T.leaf (Option.some (AV.int Go.IntKind.u8 (Int.ofNat (byteAt v (Int.toNat (Int.ofNat x)))))) T.leaf)) (Option.some (AV.ptr 0 0)) (T.node (T.node T.leaf Option.none (T.node T.leaf Option.none (T.node (T.node T.leaf Option.none (T.node T.leaf (Option.some (AV.bool true)) T.leaf)) (Option.some (AV.bool true)) T.leaf))) Option.none (T.node (T.node (T.node (T.node (T.node T.leaf Option.none (T.node T.leaf (Option.some (AV.bool true)) T.leaf)) Option.none T.leaf) Option.none T.leaf) Option.none T.leaf) (Option.some (AV.int Go.IntKind.i64 (Int.ofNat n - Int.ofNat x))) (T.node (T.node T.leaf Option.none (T.node T.leaf (Option.some (AV.bool false)) T.leaf)) Option.none T.leaf)))) (H.mk (T.node T.leaf (Option.some (Blk.row [AV.str n v, AV.int Go.IntKind.i64 (Int.ofNat x + (Int.ofNat n - Int.ofNat x)), AV.map 1, AV.int Go.IntKind.i64 (Int.ofNat b)] 48 true [])) T.leaf) 2) []) False) False)) False) (K XE.ret (T.node (T.node T.leaf Option.none (T.node T.leaf (Option.some (AV.int Go.IntKind.u8 (Int.ofNat (byteAt v (Int.toNat (Int.ofNat x)))))) T.leaf)) (Option.some (AV.ptr 0 0)) (T.node (T.node T.leaf Option.none (T.node T.leaf Option.none (T.node (T.node T.leaf Option.none (T.node T.leaf (Option.some (AV.bool false)) T.leaf)) (Option.some (AV.bool true)) T.leaf))) Option.none (T.node T.leaf Option.none (T.node (T.node T.leaf Option.none (T.node T.leaf (Option.some (AV.bool false)) T.leaf)) Option.none T.leaf)))) (H.mk (T.node T.leaf (Option.some (Blk.row [AV.str n v, AV.int Go.IntKind.i64 (Int.ofNat x), AV.map 1, AV.int Go.IntKind.i64 (Int.ofNat b)] 48 true [])) T.leaf) 2) [])) False)) False))))) False) (K (XE.ext 0) (T.node T.leaf (Option.some (AV.ptr 0 0)) (T.node (T.node T.leaf Option.none (T.node T.leaf Option.none (T.node T.leaf (Option.some (AV.bool false)) T.leaf))) Option.none T.leaf)) (H.mk (T.node T.leaf (Option.some (Blk.row [AV.str n v, AV.int Go.IntKind.i64 (Int.ofNat x), AV.map 1, AV.int Go.IntKind.i64 (Int.ofNat b)] 48 true [])) T.leaf) 2) [])) := by kernel_rfl
theorem blank_res (n v x b : Nat) (K : KV) : xfun C4 Tryd.prog (xcode C4 Tryd.prog F) 26 [.ptr 0 0] (rdr n v x b) [] K = (∃ s, Nat.le (SB.n s) maxI ∧ (Option.some (AV.ptr 0 0) = Option.some (AV.ptr 0 0) ∧ True ∧ True) ∧ 2 = 2 ∧ (Option.some (Blk.row [AV.str n v, AV.int Go.IntKind.i64 (Int.ofNat x), AV.map 1, AV.int Go.IntKind.i64 (Int.ofNat b)] 48 true []) = Option.some (Blk.row [AV.str s.1 s.2, AV.int Go.IntKind.i64 (Int.ofNat s.3), AV.map 1, AV.int Go.IntKind.i64 (Int.ofNat s.4)] 48 true []) ∧ True ∧ True) ∧ bcase (Nat.ble (Nat.succ (bl s.2 s.1 s.3)) s.1) (K (AV.tup []) (H.mk (T.node T.leaf (Option.some (Blk.row [AV.str s.1 s.2, AV.int Go.IntKind.i64 (Int.ofNat (bl s.2 s.1 s.3)), AV.map 1, AV.int Go.IntKind.i64 (Int.ofNat s.4)] 48 true [])) T.leaf) 2) []) (K (AV.tup []) (H.mk (T.node T.leaf (Option.some (Blk.row [AV.str s.1 s.2, AV.int Go.IntKind.i64 (Int.ofNat (bl s.2 s.1 s.3)), AV.map 1, AV.int Go.IntKind.i64 (Int.ofNat s.4)] 48 true [])) T.leaf) 2) [])) := by kernel_rfl
end
end Go.Proofs.YtoeoaiipchklbaaDoor
/- The program's lexer: blanks. -/
set_option autoImplicit false
set_option linter.unusedVariables false
set_option maxRecDepth 100000
namespace Go.Proofs.YtoeoaiipchklbaaDoor
noncomputable section
open Go.X
theorem scan_sub {p : Nat → Bool} {v x n : Nat} : ∀ (f j : Nat), j + f ≤ n - x → x + scan p (subV v x n) f j = scan p v f (x + j)
  | 0, j, _ => rfl
  | f + 1, j, h => by
    rw [scan, scan, byteAt_subV (by omega)]
    cases p (byteAt v (x + j)) with
    | true => exact scan_sub f (j + 1) (by omega)
    | false => rfl
theorem dash_iff {v n x : Nat} (h2 : 2 ≤ n - x) (hx : x ≤ n) : (Bool.and true (Nat.beq (subV (subV v x n) 0 2) 11565)) = dash v n x := by
  have e : subV (subV v x n) 0 2 = subV v x (x + 2) := by rw [subV_sub (by omega)]; rfl
  rw [e, Bool.eq_iff_iff]
  show (true && Nat.beq _ _) = true ↔ _
  rw [Bool.true_and, natBeq_iff, subV_eq_of (by rw [show x + 2 - x = 2 by omega]; decide)]
  unfold dash
  show _ ↔ (Nat.beq _ _ && (Nat.ble _ _ && Nat.beq _ _)) = true
  rw [Bool.and_eq_true, Bool.and_eq_true, natBeq_iff, natBeq_iff, Nat.ble_eq]
  have b0 : byteAt 11565 0 = 45 := by rw [byteAt_def]
  have b1 : byteAt 11565 1 = 45 := by rw [byteAt_def]
  constructor
  · intro h
    have h0 := h 0 (by omega)
    have h1 := h 1 (by omega)
    rw [b0] at h0; rw [b1] at h1
    exact ⟨h0, by omega, h1⟩
  · rintro ⟨h0, _, h1⟩ i hi
    match i, hi with
    | 0, _ => rw [b0]; exact h0
    | 1, _ => rw [b1]; exact h1
    | k + 2, hi => omega
theorem lineE_ge {v n x : Nat} (hd : dash v n x = true) : x < lineE v n x := by
  unfold dash at hd
  have hd : (Nat.beq (byteAt v x) 45 && (Nat.ble (x + 2) n && Nat.beq (byteAt v (x + 1)) 45)) = true := hd
  rw [Bool.and_eq_true, Bool.and_eq_true, natBeq_iff, Nat.ble_eq] at hd
  unfold lineE
  have hlt : x < n := by omega
  have : isNot 10 (byteAt v x) = true := by rw [hd.1]; rfl
  rw [scan_yes hlt this]
  have := scan_ge (isNot 10) v (n - (x + 1)) (x + 1)
  omega
theorem lineE_le {v n x : Nat} (h : x ≤ n) : lineE v n x ≤ n := by
  have := scan_le (isNot 10) v (n - x) x
  unfold lineE; omega
theorem blk_fuel (v n : Nat) : ∀ (f g i : Nat), n - i ≤ f → n - i ≤ g → blk v n f i = blk v n g i
  | 0, 0, i, _, _ => rfl
  | 0, g + 1, i, hf, _ => by
    have : Nat.ble (i + 1) n = false := by rw [bleD]; simp; omega
    rw [blk, blk, this]; rfl
  | f + 1, 0, i, _, hg => by
    have : Nat.ble (i + 1) n = false := by rw [bleD]; simp; omega
    rw [blk, blk, this]; rfl
  | f + 1, g + 1, i, hf, hg => by
    rw [blk, blk]
    cases h1 : Nat.ble (i + 1) n with
    | false => rfl
    | true =>
      have h1 := Nat.le_of_ble_eq_true h1
      cases h2 : isS (byteAt v i) with
      | true => exact blk_fuel v n f g (i + 1) (by omega) (by omega)
      | false =>
        cases h3 : dash v n i with
        | false => rfl
        | true =>
          have := lineE_ge h3
          exact blk_fuel v n f g _ (by omega) (by omega)
theorem bl_end {v n i : Nat} (h : ¬ i < n) : bl v n i = i := by
  have : n - i = 0 := by omega
  unfold bl; rw [this]; rfl
theorem bl_sp {v n i : Nat} (h : i < n) (hs : isS (byteAt v i) = true) : bl v n i = bl v n (i + 1) := by
  unfold bl
  have e : n - i = (n - (i + 1)) + 1 := by omega
  have h1 : Nat.ble (i + 1) n = true := Nat.ble_eq_true_of_le h
  rw [e, blk, h1, hs]; rfl
theorem bl_dash {v n i : Nat} (h : i < n) (hs : isS (byteAt v i) = false) (hd : dash v n i = true) : bl v n i = bl v n (lineE v n i) := by
  unfold bl
  have e : n - i = (n - (i + 1)) + 1 := by omega
  have h1 : Nat.ble (i + 1) n = true := Nat.ble_eq_true_of_le h
  have := lineE_ge hd
  rw [e, blk, h1, hs, hd]
  exact blk_fuel v n _ _ _ (by omega) (by omega)
theorem bl_stop {v n i : Nat} (hs : isS (byteAt v i) = false) (hd : dash v n i = false) : bl v n i = i := by
  unfold bl
  by_cases h : i < n
  · have e : n - i = (n - (i + 1)) + 1 := by omega
    have h1 : Nat.ble (i + 1) n = true := Nat.ble_eq_true_of_le h
    rw [e, blk, h1, hs, hd]; rfl
  · have : n - i = 0 := by omega
    rw [this]; rfl
theorem bl_ge (v n : Nat) : ∀ (f i : Nat), i ≤ blk v n f i
  | 0, i => Nat.le_refl _
  | f + 1, i => by
    rw [blk]
    cases Nat.ble (i + 1) n with
    | false => exact Nat.le_refl _
    | true =>
      cases isS (byteAt v i) with
      | true => have := bl_ge v n f (i + 1); show i ≤ blk v n f (i + 1); omega
      | false =>
        cases h3 : dash v n i with
        | false => exact Nat.le_refl _
        | true => have := bl_ge v n f (lineE v n i); have := lineE_ge h3; show i ≤ blk v n f (lineE v n i); omega
theorem bl_le (v n : Nat) : ∀ (f i : Nat), i ≤ n → blk v n f i ≤ n
  | 0, i, h => h
  | f + 1, i, h => by
    rw [blk]
    cases h1 : Nat.ble (i + 1) n with
    | false => exact h
    | true =>
      have h1 := Nat.le_of_ble_eq_true h1
      cases isS (byteAt v i) with
      | true => exact bl_le v n f (i + 1) (by omega)
      | false =>
        cases h3 : dash v n i with
        | false => exact h
        | true => exact bl_le v n f (lineE v n i) (lineE_le h)
theorem isS_iff (c : Nat) : isS c = true ↔ c = 32 ∨ c = 9 ∨ c = 10 ∨ c = 13 := by
  unfold isS
  show (Nat.beq _ _ || (Nat.beq _ _ || (Nat.beq _ _ || Nat.beq _ _))) = true ↔ _
  simp only [Bool.or_eq_true, natBeq_iff]
theorem isS_no {c : Nat} (h : ¬ (c = 32 ∨ c = 9 ∨ c = 10 ∨ c = 13)) : isS c = false := by
  cases hc : isS c with
  | false => rfl
  | true => exact absurd ((isS_iff c).1 hc) h
theorem rdr_eq {n v x b : Nat} {z : Int} (h : z = Int.ofNat x) : H.mk (T.node T.leaf (some (Blk.row [.str n v, .int .i64 z, .map 1, .int .i64 (.ofNat b)] 48 true [])) T.leaf) 2 = rdr n v x b := by subst h; rfl
theorem absB {n v x b : Nat} {env : Env} (h : T.get env 0 = some (.ptr 0 0)) : Abs 2 (sg 2 []) eB (rdr n v x b) env (rdr n v x b) :=
  abs_mk rfl rfl rfl ⟨⟨rfl, h⟩, trivial, trivial⟩ ⟨⟨rfl, rfl, _, rfl, rfl⟩, trivial, trivial⟩
theorem goodC4 : X.Good C4 Tryd.prog := by
  unfold C4 lB
  rw [lcE2_eq]
  refine goodC3.addE (n0 := 2) (μ := fun s : SB => s.n - s.x) (fuel := F) (by kernel_rfl) ?_ ?_ ?_
  · intro s _
    refine ⟨rfl, ?_, ⟨rfl, trivial, trivial⟩, ⟨rfl, trivial, trivial⟩⟩
    cases iB s <;> exact Nat.le_refl _
  · rintro ⟨n, v, x, b⟩ hok
    refine ⟨Eq.mpr (blank_body n v x b _) ?_⟩
    have hn : n ≤ 9223372036854775807 := hok
    -- a step
    have nrm : ∀ {env : Env} {x' : Nat} {z : Int}, T.get env 0 = some (.ptr 0 0) → x < x' → x < n → bl v n x = bl v n x' → z = Int.ofNat x' →
        ∃ (s' : SB) (l : List Nat), okB s' ∧ s'.n - s'.x < n - x ∧ cond (iB s') (XE.ret, eB, dB s') (XE.ext 0, eB, dB s') = cond (iB ⟨n, v, x, b⟩) (XE.ret, eB, dB ⟨n, v, x, b⟩) (XE.ext 0, eB, dB ⟨n, v, x, b⟩) ∧
          Abs 2 (sg 2 l) eB (hB s') env (H.mk (T.node T.leaf (some (Blk.row [.str n v, .int .i64 z, .map 1, .int .i64 (.ofNat b)] 48 true [])) T.leaf) 2) := by
      intro env x' z he hx hlt hb hz
      refine ⟨⟨n, v, x', b⟩, [], hok, by dsimp only; omega, ?_, ?_⟩
      · unfold iB dB; dsimp only; rw [hb]
      · rw [rdr_eq hz]; exact absB he
    have stop : ∀ {env : Env}, T.get env 0 = some (.ptr 0 0) → bl v n x = x → x < n → ∃ l, (cond (iB ⟨n, v, x, b⟩) (XE.ret, eB, dB ⟨n, v, x, b⟩) (XE.ext 0, eB, dB ⟨n, v, x, b⟩)).1 = XE.ret ∧
        Abs 2 (sg 2 l) (cond (iB ⟨n, v, x, b⟩) (XE.ret, eB, dB ⟨n, v, x, b⟩) (XE.ext 0, eB, dB ⟨n, v, x, b⟩)).2.1 (cond (iB ⟨n, v, x, b⟩) (XE.ret, eB, dB ⟨n, v, x, b⟩) (XE.ext 0, eB, dB ⟨n, v, x, b⟩)).2.2 env (rdr n v x b) := by
      intro env he hb hlt
      have hi : iB ⟨n, v, x, b⟩ = true := by unfold iB; dsimp only; rw [hb]; exact Nat.ble_eq_true_of_le hlt
      refine ⟨[], by rw [hi]; rfl, ?_⟩
      rw [hi]
      show Abs 2 (sg 2 []) eB (rdr n v (bl v n x) b) env (rdr n v x b)
      rw [hb]; exact absB he
    refine bcase_mk (fun h1 => ?_) (fun h1 => ?_)
    · rw [ltN, decide_eq_true_iff] at h1
      refine bcase_t (inB_of h1) ?_
      have sp : byteAt v x = 32 ∨ byteAt v x = 9 ∨ byteAt v x = 10 ∨ byteAt v x = 13 → bl v n x = bl v n (x + 1) := fun h => bl_sp h1 ((isS_iff _).2 h)
      refine bcase_mk (fun h2 => bcase_t (inR_add (by omega)) (nrm rfl (Nat.lt_succ_self _) h1 (sp (.inl (eqT h2))) rfl)) (fun h2 => ?_)
      refine bcase_mk (fun h3 => bcase_t (inR_add (by omega)) (nrm rfl (Nat.lt_succ_self _) h1 (sp (.inr (.inl (eqT h3)))) rfl)) (fun h3 => ?_)
      refine bcase_mk (fun h4 => bcase_t (inR_add (by omega)) (nrm rfl (Nat.lt_succ_self _) h1 (sp (.inr (.inr (.inl (eqT h4))))) rfl)) (fun h4 => ?_)
      refine bcase_mk (fun h5 => bcase_t (inR_add (by omega)) (nrm rfl (Nat.lt_succ_self _) h1 (sp (.inr (.inr (.inr (eqT h5))))) rfl)) (fun h5 => ?_)
      have hs : isS (byteAt v x) = false := by
        rw [eqN, decide_eq_false_iff_not] at h2 h3 h4 h5
        refine isS_no ?_
        rintro (h | h | h | h)
        · exact h2 h
        · exact h3 h
        · exact h4 h
        · exact h5 h
      have hnx : (Bool.and (Nat.ble n n) (Nat.ble x n)) = true := by rw [bleD, bleD]; simp; omega
      refine bcase_t hnx (bcase_mk (fun h6 => ?_) (fun h6 => ?_))
      · rw [ltN, decide_eq_true_iff] at h6
        have hd : dash v n x = false := by
          unfold dash
          have : Nat.ble (x + 2) n = false := by rw [bleD, decide_eq_false_iff_not]; have h6 : n - x < 2 := h6; omega
          rw [this]; cases Nat.beq (byteAt v x) 45 <;> rfl
        exact stop rfl (bl_stop hs hd) h1
      · rw [ltN, decide_eq_false_iff_not] at h6
        have h6 : ¬ n - x < 2 := h6
        have h7 : (Bool.and (Nat.ble 2 (Nat.sub n x)) true) = true := by
          have : Nat.ble 2 (Nat.sub n x) = true := Nat.ble_eq_true_of_le (by show 2 ≤ n - x; omega)
          rw [this]; rfl
        refine bcase_t h7 (bcase_mk (fun h8 => ?_) (fun h8 => ?_))
        · have h8 : dash v n x = true := by rw [← dash_iff (by omega) (by omega)]; exact h8
          have hl := bl_dash h1 hs h8
          have hg := lineE_ge h8
          have hle := lineE_le (v := v) (n := n) (x := x) (by omega)
          have hsc : x + scan (isNot 10) (subV v x n) (n - x) 0 = lineE v n x := scan_sub (n - x) 0 (by omega)
          refine bcase_t hnx (bcase_mk (fun h9 => ?_) (fun h9 => ?_))
          · refine bcase_t (inR_add (by show x + scan (isNot 10) (subV v x n) (n - x) 0 ≤ _; omega)) (nrm rfl hg h1 hl ?_)
            show Int.ofNat x + Int.ofNat (scan (isNot 10) (subV v x n) (n - x) 0) = _
            rw [addN, hsc]
          · rw [bleD, decide_eq_false_iff_not] at h9
            have h9 : ¬ (scan (isNot 10) (subV v x n) (n - x) 0) + 1 ≤ n - x := h9
            have hn2 : lineE v n x = n := by omega
            refine bcase_t (inR_sub (by omega) hn) (bcase_t ?_ (nrm (x' := n) rfl h1 h1 (by rw [hl, hn2]) ?_))
            · rw [subN (by omega)]; exact inR_add (by omega)
            · rw [subN (by omega), addN]; congr 1; omega
        · have h8 : dash v n x = false := by rw [← dash_iff (by omega) (by omega)]; exact h8
          exact stop rfl (bl_stop hs h8) h1
    · rw [ltN, decide_eq_false_iff_not] at h1
      have hb := bl_end (v := v) h1
      have hi : iB ⟨n, v, x, b⟩ = false := by unfold iB; dsimp only; rw [hb, bleD, decide_eq_false_iff_not]; omega
      refine ⟨[], by rw [hi]; rfl, ?_⟩
      rw [hi]
      show Abs 2 (sg 2 []) eB (rdr n v (bl v n x) b) _ _
      rw [hb]; exact absB rfl
  · intro g i h; cases h
/-- blank -/
def fBlank (args : List AV) (h : H) : Option (Bool × AV × H) := match args with
  | [.ptr i 0] => match rd h i with
    | some (c, n, v, x, j, b) => some (c, .tup [], ⟨h.b.set (.row [.str n v, .int .i64 (.ofNat (bl v n x)), .map j, .int .i64 (.ofNat b)] 48 true []) i, h.next⟩)
    | none => none
  | _ => none
theorem blank_ok {gl : Glob} (args : List AV) (h : H) (v : AV) (h' : H) (ds : List Bool) (K : KV) (hf : fBlank args h = some (true, v, h')) (hK : K v h' ds) : CallOK Tryd.prog gl 26 args h K := by
  unfold fBlank at hf
  split at hf <;> try (cases hf; done)
  rename_i i
  split at hf <;> try (cases hf; done)
  rename_i c n v x j b hr
  simp only [Option.some.injEq, Prod.mk.injEq] at hf
  obtain ⟨rfl, rfl, rfl⟩ := hf
  obtain ⟨g1, g2, g3, g4, g5⟩ := rd_some hr
  refine frame_row (args1 := [.ptr 0 0]) (h1 := rdr n v x b) (k1 := .row [.str n v, .int .i64 (.ofNat (bl v n x)), .map 1, .int .i64 (.ofNat b)] 48 true []) (V := .tup []) (ρ := two i j) goodC4 rfl (fuel := F) (ds1 := []) (rdr_plain n v x b) (Nat.lt_succ_of_lt (Nat.lt_succ_self _)) ⟨_, rfl, rfl⟩ rfl rfl rfl rfl
    ⟨Eq.mpr (blank_res n v x b _) ?_⟩ (rdr_see g1) (two_inj g5) (two_low g3 g4) hK
  have e0 : ∀ k : Blk, T.get (T.set T.leaf k 0) 0 = some k := fun k => rfl
  refine ⟨⟨n, v, x, b⟩, g2, ⟨rfl, trivial, trivial⟩, rfl, ⟨rfl, trivial, trivial⟩, bcase_mk (fun _ => ?_) (fun _ => ?_)⟩ <;>
    exact ⟨rfl, rfl, ⟨fun h => absurd rfl h, trivial, trivial⟩⟩
def C5 : Cfg := C4.addCon 26 (conF fBlank)
theorem goodC5 : X.Good C5 Tryd.prog := goodC4.addCon 26 _ (conF_spl _) (conF_ok blank_ok)
end
end Go.Proofs.YtoeoaiipchklbaaDoor
