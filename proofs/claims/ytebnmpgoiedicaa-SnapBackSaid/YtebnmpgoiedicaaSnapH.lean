/-
  Manifests held against each other; begun.
-/
import Derived.Test.YtebnmpgoiedicaaSnapG
namespace Go.Proofs.Ytebnmpgoiedicaa
open Go.RowKit

theorem part_root {R : List UInt8} {t : Int} {s : ByteArray} (h : R.length = 32) (W : World) : (part 23 (mC R t s) 0).run Try.prog W = .ok (.agg (R.map Extern.Stop.cell).toArray) W := by
  have hz : (sizeOf 23).run Try.prog W = .ok 32 W := sizeOf_run (by kernel_rfl) W
  have hl : (R.map b8).length = 32 := by simpa using h
  have e0 : (R.map b8 ++ [Value.int .i64 t, Value.string s]).take 32 = R.map b8 := by
    rw [← hl]
    exact List.take_left
  have e : (mC R t s).extract 0 32 = (R.map Extern.Stop.cell).toArray := by
    apply Array.ext'
    rw [Array.toList_extract, List.extract_eq_take_drop, List.drop_zero]
    exact e0
  simp [part, isAgg, run_underlying Try.underlying23, hz, e]
theorem part_time {R : List UInt8} {t : Int} {s : ByteArray} (h : R.length = 32) (W : World) : (part 2 (mC R t s) 32).run Try.prog W = .ok (.int .i64 t) W := by
  simp [part, isAgg, run_underlying Try.underlying2, mC_time h]
theorem part_label {R : List UInt8} {t : Int} {s : ByteArray} (h : R.length = 32) (W : World) : (part 9 (mC R t s) 33).run Try.prog W = .ok (.string s) W := by
  simp [part, isAgg, run_underlying Try.underlying9, mC_label h]
theorem eql_man {R : List UInt8} {t : Int} {s : ByteArray} (h : R.length = 32) (W : World) : (binOp .eql 25 (.agg (mC R t s)) (.agg (mC R t s))).run Try.prog W = .ok (.bool true) W := by
  have hS : Try.prog.underlying 25 = some (.struct (Try.prog.fieldsOf 25)) := by kernel_rfl
  have hp : Try.prog.stoodInHeld 25 = false := by kernel_rfl
  have hb : (Op.equalIn 9999 23 (.agg (R.map Extern.Stop.cell).toArray) (.agg (R.map Extern.Stop.cell).toArray)).run Try.prog W = .ok (R == R) W :=
    run_equalIn_bytes W 9997 23 5 32 Try.underlying23 Try.underlying5 (fun w => sizeOf_run (by kernel_rfl) w) R R h h
  rw [run_eql_struct, show (10000 : Nat) = 9999 + 1 from rfl, run_equalIn_agg W 9999 25 _ _ hS hp]
  simp only [Program.fieldsOf, Try.underlying25]
  simp [Op.eqFields, part_root h, part_time h, part_label h, hb, Result.andThen, run_equalIn_int W 9998 2 .i64 .i64 t t Try.underlying2, run_equalIn_string W 9998 9 s s Try.underlying9]

section
variable {ops : Array Oper} {rest : List Oper} {o : Oper} {a : Act} {Q : Exit → Act → World → Prop} {w : World}
theorem wpList_eql_man (hw : Region.wanted o (yielded ops a.tmps) = true) (x y : Operand) (ho : o.op = .binOp .eql 25 x y 25) {R : List UInt8} {t : Int} {s : ByteArray} (h : R.length = 32) (hx : a.eval x = .agg (mC R t s)) (hy : a.eval y = .agg (mC R t s))
    (k : wpList Try.prog ops Q rest (a.put o.dst (.bool true)) w) : wpList Try.prog ops Q (o :: rest) a w := by
  refine wpList_taken hw fun K hK => ?_
  have hg := run_eqGuard_agg (P := Try.prog) w .eql 25 x y (mC R t s) (mC R t s) (by kernel_rfl)
  unfold Oper.wp execOp
  simp only [ho, hx, hy, Sem.run_bind, Sem.run_pure, Result.andThen_ok, hg, eql_man h w]
  exact hK _ _ k
end

theorem build_begun (W : World) : (Instr.build 25 #[(1, .int .i64 3), (2, .string ⟨#[120]⟩)]).run Try.prog W = .ok (.agg (mC (List.replicate 32 0) 3 ⟨#[120]⟩)) W := by kernel_rfl
def begL : List UInt8 := [83, 49] ++ List.replicate 32 0 ++ putB 3 8 ++ [1] ++ [120]
theorem bytes_beg : bytesP (List.replicate 32 0) 3 ⟨#[120]⟩ = (begL, 0) := by
  unfold bytesP
  rw [if_pos (by decide +kernel)]
  have e : countB (ByteArray.size ⟨#[120]⟩) = [1] := countB_small 1 (by omega)
  rw [e]
  rfl
theorem take_beg : takeM begL = (mC (List.replicate 32 0) 3 ⟨#[120]⟩, 0) := by
  have h : okT begL := by decide +kernel
  rw [take_yes h]
  have e1 : RT begL = List.replicate 32 0 := by decide +kernel
  have e2 : tT begL = 3 := by decide +kernel
  have e3 : sT begL = ⟨#[120]⟩ := by
    unfold sT
    have : begL.drop 43 = [120] := by decide +kernel
    rw [this]
  rw [e1, e2, e3]
  rfl

theorem begun_any (w : World) : Calls Try.prog 6 #[] w fun e w' => e = .returned (.bool true) ∧ Below w.heap.size w w' := by
  have hR : (List.replicate 32 (0 : UInt8)).length = 32 := by simp
  go_enter Try.func6, Try.ntmps6
  go_wp2_with (refine wpList_build_run rfl _ _ rfl #[(1, .int .i64 3), (2, .string ⟨#[120]⟩)] (by rw [List.map_toArray]; rfl) _ (build_begun _) ?_)
  refine (Bytes_any _ 3 _ hR _ (by decide) (by omega) (by omega)).mono ?_
  rintro e w1 ⟨A1, n1, c1, rfl, ho1, hbl1⟩
  rw [bytes_beg] at ho1 ⊢
  obtain rfl : 44 = n1 := ho1.lenb
  go_wp2_with fail
  refine (Take_any A1 44 c1 _ _ ho1.rd (by omega)).mono ?_
  rintro e w2 ⟨rfl, hbl2⟩
  rw [take_beg]
  have hb2 := hbl1.trans (hbl2.mono hbl1.size)
  go_wp2_with (first
    | (refine wpList_alloc_zero rfl _ rfl mZ zero_man ?_; intro w3 hg3 hb3 hz3)
    | (refine wpList_store_all rfl _ _ _ rfl w2.heap.size rfl _ _ (mC (List.replicate 32 0) 3 ⟨#[120]⟩) rfl hg3 (size_man hR) (mZ_size.trans (mC_size hR).symm) mC_one ?_; intro w4 hg4 hgr4 hz4; have hm4 : Man w4 w2.heap.size (List.replicate 32 0) 3 ⟨#[120]⟩ := ⟨hR, hg4⟩; have q1 := hm4.time; have q2 := hm4.label))
  go_ret
  exact ⟨rfl, (hb2.trans (hb3.mono hb2.size)).grown hgr4 (Nat.le_trans hb2.size hb3.size) (fun g hg => by injection hg with hg; have := hb2.size; omega)⟩

end Go.Proofs.Ytebnmpgoiedicaa
