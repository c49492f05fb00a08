/-
  Names of 32 bytes (api.ID) as values, in blocks, held against each other.
-/
import Derived.Test.YtgdbdhfomlkpdaaStrs
import Derived.Laws.StructEq
import Derived.Stop.BytesEq
namespace Go.Proofs.Ytgdbdhfomlkpdaa
open Go.RowKit

theorem results_cell_tmp {P : Program} {fn : Func} {p q : Tmp} {ty : TypeId} (h : fn.results = #[.cell p ty, .tmp q]) (tmps : Array Value) (w : World) (g : Nat) (t : TypeId) (cs : Array Value) (fr : Nat × Nat) (d : TypeDesc)
    (hp : tmps.getD p undef = .pointer (some ⟨g, 0, none⟩)) (hg : w.heap[g]? = some (.cells cs t fr))
    (hu : P.underlying ty = some d) (hd : (match d with | .struct _ | .array _ _ => true | _ => false) = true) (hi : (P.info? ty).map (·.size) = some cs.size) (v : Value) (hv : tmps.getD q undef = v) :
    (results fn tmps).run P w = .ok (.tuple #[.agg cs, v]) w := by
  have hp' : tmps[p]?.getD undef = .pointer (some ⟨g, 0, none⟩) := by simpa using hp
  have hv' : tmps[q]?.getD undef = v := by simpa using hv
  simp [results, h, hp', hv', asAddr, run_loadVar_row w g t ty cs fr d hg hu hd hi]

/-- The cells of a name. -/
def idA (R : List UInt8) : Array Value := (R.map b8).toArray
/-- The zero name. -/
def zid : List UInt8 := List.replicate 32 0
theorem zid_len : zid.length = 32 := by simp [zid]
theorem idA_size {R : List UInt8} (h : R.length = 32) : (idA R).size = 32 := by simp [idA, h]
theorem idA_one {R : List UInt8} : ∀ v ∈ (idA R).toList, v.oneCell' = true := by
  intro v hv
  exact b8_one R v hv
theorem idA_same {R R2 : List UInt8} (h : R.length = 32) (h2 : R2.length = 32) : (idA R).size = (idA R2).size := (idA_size h).trans (idA_size h2).symm
theorem zero_id : (Try.prog.info? 31).map (·.zero) = some (some (.agg (idA zid))) := by kernel_rfl
theorem size_id0 : (Try.prog.info? 31).map (·.size) = some 32 := by kernel_rfl
theorem size_id {R : List UInt8} (h : R.length = 32) : (Try.prog.info? 31).map (·.size) = some (idA R).size := by rw [idA_size h]; exact size_id0
theorem build_id0 (W : World) : (Instr.build 31 #[]).run Try.prog W = .ok (.agg (idA zid)) W := by kernel_rfl
theorem run_arr_id (ad : Addr) (c : Nat) (W : World) : (Instr.arrayAt 31 (.slice (some ad) 32 c)).run Try.prog W = .ok (.pointer (some ad)) W := by kernel_rfl
theorem load_id {ad : Addr} {c : Nat} {R : List UInt8} {w : World} (h : Rd w 1 (some ad) 32 c (R.map b8)) : (loadVar 31 ad).run Try.prog w = .ok (.agg (idA R)) w :=
  run_loadVar_arr (P := Try.prog) (ty := 31) Try.underlying31 size_id0 h
theorem equal_id {R R2 : List UInt8} (h : R.length = 32) (h2 : R2.length = 32) (n : Nat) (W : World) : (Op.equalIn (n + 2) 31 (.agg (idA R)) (.agg (idA R2))).run Try.prog W = .ok (R == R2) W :=
  run_equalIn_bytes W n 31 5 32 Try.underlying31 Try.underlying5 (fun w => sizeOf_run (by kernel_rfl) w) R R2 h h2
theorem eql_id {R R2 : List UInt8} (h : R.length = 32) (h2 : R2.length = 32) (W : World) : (binOp .eql 31 (.agg (idA R)) (.agg (idA R2))).run Try.prog W = .ok (.bool (R == R2)) W := by
  rw [run_eql_struct, show (10000 : Nat) = 9998 + 2 from rfl, equal_id h h2]
  rfl
theorem neq_id {R R2 : List UInt8} (h : R.length = 32) (h2 : R2.length = 32) (W : World) : (binOp .neq 31 (.agg (idA R)) (.agg (idA R2))).run Try.prog W = .ok (.bool (!(R == R2))) W := by
  rw [run_neq_struct, show (10000 : Nat) = 9998 + 2 from rfl, equal_id h h2]
  rfl

section
variable {ops : Array Oper} {rest : List Oper} {o : Oper} {a : Act} {Q : Exit → Act → World → Prop} {w : World}
theorem wpList_eql_id (hw : Region.wanted o (yielded ops a.tmps) = true) (x y : Operand) (ho : o.op = .binOp .eql 31 x y 31) {R R2 : List UInt8} (h : R.length = 32) (h2 : R2.length = 32) (hx : a.eval x = .agg (idA R)) (hy : a.eval y = .agg (idA R2))
    (k : wpList Try.prog ops Q rest (a.put o.dst (.bool (R == R2))) w) : wpList Try.prog ops Q (o :: rest) a w := by
  refine wpList_taken hw fun K hK => ?_
  have hg := run_eqGuard_agg (P := Try.prog) w .eql 31 x y (idA R) (idA R2) (by kernel_rfl)
  unfold Oper.wp execOp
  simp only [ho, hx, hy, Sem.run_bind, Sem.run_pure, Result.andThen_ok, hg, eql_id h h2 w]
  exact hK _ _ k
theorem wpList_neq_id (hw : Region.wanted o (yielded ops a.tmps) = true) (x y : Operand) (ho : o.op = .binOp .neq 31 x y 31) {R R2 : List UInt8} (h : R.length = 32) (h2 : R2.length = 32) (hx : a.eval x = .agg (idA R)) (hy : a.eval y = .agg (idA R2))
    (k : wpList Try.prog ops Q rest (a.put o.dst (.bool (!(R == R2)))) w) : wpList Try.prog ops Q (o :: rest) a w := by
  refine wpList_taken hw fun K hK => ?_
  have hg := run_eqGuard_agg (P := Try.prog) w .neq 31 x y (idA R) (idA R2) (by kernel_rfl)
  unfold Oper.wp execOp
  simp only [ho, hx, hy, Sem.run_bind, Sem.run_pure, Result.andThen_ok, hg, neq_id h h2 w]
  exact hK _ _ k
end

end Go.Proofs.Ytgdbdhfomlkpdaa
