/-
  Package folder: sort.Search by the shelf's contract; the closure of Find.
-/
import Derived.Test.YtgdbdhfomlkpdaaFoA
import Derived.Shelf.SlSorted.Search
namespace Go.Proofs.Ytgdbdhfomlkpdaa
open Go.RowKit Go.Shelf

def searchRen : Go.Shelf.Ren := ⟨fun | 16 => 36 | n => n, fun | 3 => 3 | 4 => 4 | 35 => 57 | 38 => 59 | n => n, fun | n => n⟩
theorem search_lay : Go.Proofs.SlLaysO.n16 Try.prog searchRen := {
  mixed := by kernel_rfl
  f16 := Try.func36.trans (congrArg some (by kernel_rfl))
  t3 := Try.underlying3
  a3 := Try.isAgg3
  z3 := Try.sizeOf3
  v3 := Try.zeroValue3
  t4 := Try.underlying4
  a4 := Try.isAgg4
  z4 := Try.sizeOf4
  v4 := Try.zeroValue4
  t35 := Try.underlying57
  a35 := Try.isAgg57
  z35 := Try.sizeOf57
  v35 := Try.zeroValue57
  t38 := Try.underlying59
  a38 := Try.isAgg59
  z38 := Try.sizeOf59
  v38 := Try.zeroValue59 }

/-- Is the name at place i not below s? -/
def geAt (l : List It) (s : ByteArray) (i : Nat) : Bool := !(Op.bytesLess (l.getD i itZ).nm.toList s.toList)

set_option maxHeartbeats 2000000 in
theorem find_closure {W : World} {A : Option Addr} {n c : Nat} {l : List It} (h : Its W A n c l) (ba bx : Nat) (s : ByteArray) (i : Nat) (hi : i < n)
    (ha : W.cell? ⟨ba, 0, none⟩ = some (.slice A n c)) (hx : W.cell? ⟨bx, 0, none⟩ = some (.string s)) :
    Calls Try.prog 37 (#[.int .i64 i] ++ #[.pointer (some ⟨ba, 0, none⟩), .pointer (some ⟨bx, 0, none⟩)]) W fun e w' => e = .returned (.bool (geAt l s i)) ∧ ∃ q, w' = W.drewN q := by
  have hln := h.len
  obtain ⟨x, hxi⟩ : ∃ x, l[i]? = some x := ⟨_, List.getElem?_eq_getElem (by omega)⟩
  have hg : geAt l s i = !(Op.bytesLess x.nm.toList s.toList) := by
    unfold geAt
    rw [List.getD_eq_getElem?_getD, hxi]
    rfl
  rw [hg]
  have hidx := run_index_rd (P := Try.prog) (A := A) (n := n) (c := c) ei h.rd.nil h.rd.le i hi
  have hname : W.cell? (at_ A (i * 35)) = some (.string x.nm) := h.name hxi
  have hmx : n ≤ maxLen := Nat.le_trans h.rd.le h.rd.max
  unfold maxLen at hmx
  have hiz : (i : Int) < n := by omega
  have mixed : Try.prog.follows .mixedOrders = true := by kernel_rfl
  clear hg hln h
  go_enter Try.func37, Try.ntmps37
  go_wp2
  go_region_o
  all_goals go_wp2
  all_goals go_ret
  all_goals exact ⟨rfl, 1, rfl⟩

end Go.Proofs.Ytgdbdhfomlkpdaa
