/-
  Names of 32 bytes (api.ID) as values, in blocks, held against each other.
-/
import Derived.Test.YtpidakfpoihdkaaDoorStrs
import Derived.Laws.StructEq
import Derived.Stop.BytesEq
namespace Go.Proofs.YtpidakfpoihdkaaDoor
open Go.RowKit

theorem results_cell_tmp {P : Program} {fn : Func} {p q : Tmp} {ty : TypeId} (h : fn.results = #[.cell p ty, .tmp q]) (tmps : Array Value) (w : World) (g : Nat) (t : TypeId) (cs : Array Value) (fr : Nat × Nat) (d : TypeDesc)
    (hp : tmps.getD p undef = .pointer (some ⟨g, 0, none⟩)) (hg : w.heap[g]? = some (.cells cs t fr))
    (hu : P.underlying ty = some d) (hd : (match d with | .struct _ | .array _ _ => true | _ => false) = true) (hi : (P.info? ty).map (·.size) = some cs.size) (v : Value) (hv : tmps.getD q undef = v) :
    (results fn tmps).run P w = .ok (.tuple #[.agg cs, v]) w := by
  have hp' : tmps[p]?.getD undef = .pointer (some ⟨g, 0, none⟩) := by simpa using hp
  have hv' : tmps[q]?.getD undef = v := by simpa using hv
  simp [results, h, hp', hv', asAddr, run_loadVar_row w g t ty cs fr d hg hu hd hi]

/-- The cells of a name. -/
def idA (R : List UInt8) : Array Value := (R.map b8).toArray
/-- The zero name. -/
def zid : List UInt8 := List.replicate 32 0
theorem zid_len : zid.length = 32 := by simp [zid]
theorem idA_size {R : List UInt8} (h : R.length = 32) : (idA R).size = 32 := by simp [idA, h]
theorem idA_one {R : List UInt8} : ∀ v ∈ (idA R).toList, v.oneCell' = true := by
  intro v hv
  exact b8_one R v hv
theorem idA_same {R R2 : List UInt8} (h : R.length = 32) (h2 : R2.length = 32) : (idA R).size = (idA R2).size := (idA_size h).trans (idA_size h2).symm
section
variable {ops : Array Oper} {rest : List Oper} {o : Oper} {a : Act} {Q : Exit → Act → World → Prop} {w : World}
end

end Go.Proofs.YtpidakfpoihdkaaDoor
