/-
  The library's AppendInt at base 16.
-/
import Derived.Test.YthijpbakhnakeaaDoorHexC
namespace Go.Proofs.YthijpbakhnakeaaDoor
open Go.RowKit

set_option maxRecDepth 20000 in
set_option maxHeartbeats 1000000 in
theorem AppendUint_16 {w : World} {B : Nat} {A : Option Addr} {n c : Nat} {l : List UInt8} (h : Own w B 5 1 A n c (l.map b8)) (hB : B ≤ w.heap.size) (hn : n ≤ 1073741824) (v : Nat) (hv0 : 0 < v) (hv : v < 4294967296) (ht : HTab w) :
    Calls Tryd.prog 24 #[.slice A n c, .int .u64 v, .int .i64 16] w fun e w' => ∃ A' c', e = .returned (.slice A' (n + (hex0 v).length) c') ∧ Own w' B 5 1 A' (n + (hex0 v).length) c' ((l ++ hex0 v).map b8) ∧ Below B w w' := by
  have HF := Lib.hid (formatBits_16 h hB hn v hv0 hv ht)
  clear h
  go_enter Tryd.func24, Tryd.ntmps24
  go_wp2_with fail
  refine HF.out.mono ?_
  rintro e w1 ⟨A1, c1, rfl, ho1, hb1⟩
  go_wp2_with fail
  go_ret
  exact ⟨A1, c1, rfl, ho1, hb1⟩
set_option maxRecDepth 20000 in
set_option maxHeartbeats 1000000 in
theorem AppendInt_16i {w : World} {B : Nat} {A : Option Addr} {n c : Nat} {l : List UInt8} (h : Own w B 5 1 A n c (l.map b8)) (hB : B ≤ w.heap.size) (hn : n ≤ 1073741824) (v : Nat) (hv0 : 0 < v) (hv : v < 4294967296) (ht : HTab w) :
    Calls Tryd.prog 21 #[.slice A n c, .int .i64 v, .int .i64 16] w fun e w' => ∃ A' c', e = .returned (.slice A' (n + (hex0 v).length) c') ∧ Own w' B 5 1 A' (n + (hex0 v).length) c' ((l ++ hex0 v).map b8) ∧ Below B w w' := by
  have HF := Lib.hid (AppendUint_16 h hB hn v hv0 hv ht)
  have e1 : IntKind.u64.wrap (v : Int) = v := IntWalk.u64_in _ (by omega)
  have e2 : decide ((v : Int) < 0) = false := decide_eq_false (by omega)
  clear h hv hv0 hn hB
  go_enter Tryd.func21, Tryd.ntmps21
  go_wp2_with fail
  refine HF.out.mono ?_
  rintro e w1 ⟨A1, c1, rfl, ho1, hb1⟩
  go_wp2_with fail
  go_ret
  exact ⟨A1, c1, rfl, ho1, hb1⟩
set_option maxRecDepth 20000 in
set_option maxHeartbeats 1000000 in
theorem AppendInt_16 {w : World} {B : Nat} {A : Option Addr} {n c : Nat} {l : List UInt8} (h : Own w B 5 1 A n c (l.map b8)) (hB : B ≤ w.heap.size) (hn : n ≤ 1073741824) (v : Nat) (hv0 : 0 < v) (hv : v < 4294967296) (ht : HTab w) :
    Calls Tryd.prog 18 #[.slice A n c, .int .i64 v, .int .i64 16] w fun e w' => ∃ A' c', e = .returned (.slice A' (n + (hex0 v).length) c') ∧ Own w' B 5 1 A' (n + (hex0 v).length) c' ((l ++ hex0 v).map b8) ∧ Below B w w' := by
  have HF := Lib.hid (AppendInt_16i h hB hn v hv0 hv ht)
  clear h
  go_enter Tryd.func18, Tryd.ntmps18
  go_wp2_with fail
  refine HF.out.mono ?_
  rintro e w1 ⟨A1, c1, rfl, ho1, hb1⟩
  go_wp2_with fail
  go_ret
  exact ⟨A1, c1, rfl, ho1, hb1⟩

end Go.Proofs.YthijpbakhnakeaaDoor
