/-
  Take: what is built and loaded.
-/
import Derived.Test.YtebnmpgoiedicaaSnapD
import Derived.Test.YtebnmpgoiedicaaMix
namespace Go.Proofs.Ytebnmpgoiedicaa
open Go.RowKit

theorem take_no {l : List UInt8} (h : ¬ okT l) : takeM l = (mZ, 4) := if_neg h
theorem take_yes {l : List UInt8} (h : okT l) : takeM l = (mC (RT l) (tT l) (sT l), 0) := if_pos h
theorem zero_man : (Try.prog.info? 25).map (·.zero) = some (some (.agg mZ)) := by kernel_rfl
theorem size_z : (Try.prog.info? 25).map (·.size) = some mZ.size := by kernel_rfl
theorem build_none (W : World) : (Instr.build 25 #[]).run Try.prog W = .ok (.agg mZ) W := by kernel_rfl
theorem mC_one {R : List UInt8} {t : Int} {s : ByteArray} : ∀ v ∈ (mC R t s).toList, v.oneCell' = true := by
  intro v hv
  simp only [mC] at hv
  rcases List.mem_append.1 hv with h | h
  · exact b8_one R v h
  · rcases List.mem_cons.1 h with rfl | h
    · rfl
    · rcases List.mem_cons.1 h with rfl | h
      · rfl
      · cases h
theorem mZ_one : ∀ v ∈ mZ.toList, v.oneCell' = true := mC_one
theorem mZ_size : mZ.size = 34 := mC_size (by simp)
theorem list32 {R : List UInt8} (h : R.length = 32) : ∃ b0 b1 b2 b3 b4 b5 b6 b7 c0 c1 c2 c3 c4 c5 c6 c7 d0 d1 d2 d3 d4 d5 d6 d7 e0 e1 e2 e3 e4 e5 e6 e7, R = [b0, b1, b2, b3, b4, b5, b6, b7, c0, c1, c2, c3, c4, c5, c6, c7, d0, d1, d2, d3, d4, d5, d6, d7, e0, e1, e2, e3, e4, e5, e6, e7] := by
  match R, h with
  | [b0, b1, b2, b3, b4, b5, b6, b7, c0, c1, c2, c3, c4, c5, c6, c7, d0, d1, d2, d3, d4, d5, d6, d7, e0, e1, e2, e3, e4, e5, e6, e7], _ =>
    exact ⟨b0, b1, b2, b3, b4, b5, b6, b7, c0, c1, c2, c3, c4, c5, c6, c7, d0, d1, d2, d3, d4, d5, d6, d7, e0, e1, e2, e3, e4, e5, e6, e7, rfl⟩
theorem build_man {R : List UInt8} (h : R.length = 32) (t : Int) (s : ByteArray) (W : World) : (Instr.build 25 #[(0, .agg (R.map b8).toArray), (1, .int .i64 t), (2, .string s)]).run Try.prog W = .ok (.agg (mC R t s)) W := by
  obtain ⟨b0, b1, b2, b3, b4, b5, b6, b7, c0, c1, c2, c3, c4, c5, c6, c7, d0, d1, d2, d3, d4, d5, d6, d7, e0, e1, e2, e3, e4, e5, e6, e7, rfl⟩ := list32 h
  kernel_rfl
theorem run_arr (ad : Addr) (c : Nat) (W : World) : (Instr.arrayAt 23 (.slice (some ad) 32 c)).run Try.prog W = .ok (.pointer (some ad)) W := by kernel_rfl

end Go.Proofs.Ytebnmpgoiedicaa
