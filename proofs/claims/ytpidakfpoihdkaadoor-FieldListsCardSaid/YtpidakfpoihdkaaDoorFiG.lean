/-
  Fields held against each other; begun.
-/
import Derived.Test.YtpidakfpoihdkaaDoorFiC
import Derived.Test.YtpidakfpoihdkaaDoorFiD
import Derived.Test.YtpidakfpoihdkaaDoorMixD
namespace Go.Proofs.YtpidakfpoihdkaaDoor
open Go.RowKit

/-- Are two fields the same? -/
def fdEq (a b a2 b2 : List UInt8) : Bool := (a == a2) && (b == b2)
section
variable {a b a2 b2 : List UInt8}
theorem part_fn (W : World) : (part 9 (fdA a b) 0).run Tryd.prog W = .ok (.string ⟨a.toArray⟩) W := by
  simp [part, isAgg, run_underlying Tryd.underlying9, fdA]
theorem part_fv (W : World) : (part 9 (fdA a b) 1).run Tryd.prog W = .ok (.string ⟨b.toArray⟩) W := by
  simp [part, isAgg, run_underlying Tryd.underlying9, fdA]
theorem equal_fd (W : World) : (Op.equalIn 10000 24 (.agg (fdA a b)) (.agg (fdA a2 b2))).run Tryd.prog W = .ok (fdEq a b a2 b2) W := by
  have hS : Tryd.prog.underlying 24 = some (.struct (Tryd.prog.fieldsOf 24)) := by kernel_rfl
  have hp : Tryd.prog.stoodInHeld 24 = false := by kernel_rfl
  have h1 : (Op.equalIn 9999 9 (.string ⟨a.toArray⟩) (.string ⟨a2.toArray⟩)).run Tryd.prog W = .ok (a == a2) W := by
    rw [show (9999 : Nat) = 9998 + 1 from rfl, run_equalIn_string W 9998 9 _ _ Tryd.underlying9, ByteArray.toList_eq, ByteArray.toList_eq]
  have h2 : (Op.equalIn 9999 9 (.string ⟨b.toArray⟩) (.string ⟨b2.toArray⟩)).run Tryd.prog W = .ok (b == b2) W := by
    rw [show (9999 : Nat) = 9998 + 1 from rfl, run_equalIn_string W 9998 9 _ _ Tryd.underlying9, ByteArray.toList_eq, ByteArray.toList_eq]
  rw [show (10000 : Nat) = 9999 + 1 from rfl, run_equalIn_agg W 9999 24 _ _ hS hp]
  simp only [Program.fieldsOf, Tryd.underlying24]
  unfold fdEq
  generalize (a == a2) = B1 at *
  generalize (b == b2) = B2 at *
  cases B1 <;> cases B2 <;> simp [Op.eqFields, part_fn, part_fv, h1, h2, Result.andThen]
theorem eql_fd (W : World) : (binOp .eql 24 (.agg (fdA a b)) (.agg (fdA a2 b2))).run Tryd.prog W = .ok (.bool (fdEq a b a2 b2)) W := by
  rw [run_eql_struct, equal_fd]
  rfl
end
section
variable {ops : Array Oper} {rest : List Oper} {o : Oper} {a : Act} {Q : Exit → Act → World → Prop} {w : World} {x y x2 y2 : List UInt8}
theorem wpList_eql_fd (hw : Region.wanted o (yielded ops a.tmps) = true) (u v : Operand) (ho : o.op = .binOp .eql 24 u v 24) (hu : a.eval u = .agg (fdA x y)) (hv : a.eval v = .agg (fdA x2 y2))
    (k : wpList Tryd.prog ops Q rest (a.put o.dst (.bool (fdEq x y x2 y2))) w) : wpList Tryd.prog ops Q (o :: rest) a w := by
  refine wpList_taken hw fun K hK => ?_
  have hg := run_eqGuard_agg (P := Tryd.prog) w .eql 24 u v (fdA x y) (fdA x2 y2) (by kernel_rfl)
  unfold Oper.wp execOp
  simp only [ho, hu, hv, Sem.run_bind, Sem.run_pure, Result.andThen_ok, hg, eql_fd w]
  exact hK _ _ k
end
def hostL : List UInt8 := [72, 111, 115, 116, 58, 32, 97, 32]
def closeL : List UInt8 := [67, 108, 111, 115, 101, 44, 32, 44, 98]
theorem line_host : lineR hostL = ([104, 111, 115, 116], [97], 0) := by decide +kernel
theorem words_close : wordsF (split1 44 closeL) = [[99, 108, 111, 115, 101], [98]] := by decide +kernel

set_option maxRecDepth 20000 in
set_option maxHeartbeats 4000000 in
theorem begun_any (w : World) (hm : Mx w) : Calls Tryd.prog 8 #[] w fun e w' => e = .returned (.bool true) ∧ Below w.heap.size w w' := by
  have HM := Lib.hid (fun W (hb : Below w.heap.size w W) => hm.below hb)
  have HL := Lib.hid (Line_any hostL (by decide) w hm)
  unfold Lined at HL
  rw [line_host] at HL
  unfold hostL at HL
  clear hm
  go_enter Tryd.func8, Tryd.ntmps8
  go_wp2_with fail
  refine HL.out.mono ?_
  rintro e w1 ⟨rfl, hb1⟩
  go_wp2_with (first
    | (refine wpList_alloc_zero rfl _ rfl (fdA [] []) zero_fd ?_; intro w2 hg2 hb2 hz2)
    | (refine wpList_store_all rfl _ _ _ rfl w1.heap.size rfl _ _ _ rfl hg2 (size_fd _ _) rfl (fd_one _ _) ?_; intro w3 hg3 hgr3 hz3))
  have hb13 : Below w1.heap.size w1 w3 := hb2.grown hgr3 (by omega) (fun g hg => by obtain rfl := Option.some.inj hg; exact Nat.le_refl _)
  have hb3 := hb1.trans (hb13.mono hb1.size)
  have hlt3 : w1.heap.size < w3.heap.size := by omega
  have HW := Lib.hid (Words_any closeL (by decide) w3 (HM.out _ hb3))
  rw [words_close] at HW
  unfold closeL at HW
  clear hg2 hb2 hz2 hgr3 hz3 HL HM
  go_wp2_with fail
  refine HW.out.mono ?_
  rintro e w4 ⟨A4, n4, c4, rfl, ho4, hb34⟩
  obtain rfl : 2 = n4 := by simpa using ho4.rd.len
  have hG4 := (hb34.block _ hlt3).trans hg3
  have hb4 := hb3.trans (hb34.mono hb3.size)
  have hidx := run_index_rd (P := Tryd.prog) (A := A4) (n := 2) (c := c4) es ho4.rd.nil ho4.rd.le 0 (by omega)
  rw [Nat.mul_one, show ((0 : Nat) : Int) = 0 from rfl] at hidx
  have hcell := ho4.rd.cell 0 (strV [99, 108, 111, 115, 101]) rfl
  unfold strV at hcell
  clear HW hb34 hb3
  go_wp2_with (first
    | (refine wpList_load_all rfl _ _ rfl w1.heap.size rfl _ _ _ _ hG4 Tryd.underlying24 rfl (size_fd _ _) ?_)
    | (refine wpList_eql_fd rfl _ _ rfl rfl rfl ?_))
  go_ret
  exact ⟨rfl, hb4⟩

end Go.Proofs.YtpidakfpoihdkaaDoor
