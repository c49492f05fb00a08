/-
  Package folder: begun; FolderNames.
-/
import Derived.Test.YtgdbdhfomlkpdaaFoL
import Derived.Test.YtgdbdhfomlkpdaaFoM
import Derived.Test.YtgdbdhfomlkpdaaFoG
import Derived.Test.YtgdbdhfomlkpdaaFoC
namespace Go.Proofs.Ytgdbdhfomlkpdaa
open Go.RowKit

def begI : It := ⟨⟨#[97]⟩, 1, zid, 3⟩
theorem begI_ok : ItOk begI := ⟨zid_len, by decide, by decide, by decide, by decide, by decide⟩
theorem build_beg (W : World) : (Instr.build 33 #[(0, .string ⟨#[97]⟩), (1, .int .i64 1), (3, .int .i64 3)]).run Try.prog W = .ok (.agg (itA begI)) W := by kernel_rfl
theorem may_beg : mayL [begI] = true := by decide +kernel
theorem mayN_a : mayN ⟨#[97]⟩ = true := by decide +kernel
theorem mayN_dd : mayN ⟨#[46, 46]⟩ = false := by decide +kernel
theorem foB_beg : (foB [begI]).length = 39 := by
  have e1 : countB [begI].length = [1] := countB_small 1 (by omega)
  have e2 : countB begI.nm.size = [1] := countB_small 1 (by omega)
  have e3 : countB begI.sz.toNat = [3] := countB_small 3 (by omega)
  simp only [foB, itsBytes, List.flatMap_cons, List.flatMap_nil, itBytes, e1, e2, e3, List.append_nil]
  simp [begI, zid]

set_option maxRecDepth 20000 in
set_option maxHeartbeats 2000000 in
theorem begun_any (w : World) : Calls Try.prog 9 #[] w fun e w' => e = .returned (.bool true) ∧ Below w.heap.size w w' := by
  have hR := foR_yes may_beg (by rw [foB_beg]; omega)
  have hT := takeF_foB may_beg (fun x hx => (show x = begI by simpa using hx) ▸ begI_ok) (by rw [foB_beg]; omega)
  have HR := Lib.hid hR
  have HT := Lib.hid hT
  have HA := Lib.hid (MayName_any ⟨#[97]⟩)
  rw [mayN_a] at HA
  have HD := Lib.hid (MayName_any ⟨#[46, 46]⟩)
  rw [mayN_dd] at HD
  have HLB := Lib.hid foB_beg
  clear hR hT
  go_enter Try.func9, Try.ntmps9
  go_wp2_with (first
    | (refine wpList_build_run rfl _ _ rfl #[(0, .string ⟨#[97]⟩), (1, .int .i64 1), (3, .int .i64 3)] (by rw [List.map_toArray]; rfl) _ (build_beg _) ?_)
    | (refine wpList_slice_it rfl _ rfl rfl begI_ok ?_; intro w1 hi1 hbl1))
  refine (Bytes_any hi1).mono ?_
  rintro e w2 ⟨A2, n2, c2, rfl, ho2, hbl2⟩
  rw [HR.out] at ho2 ⊢
  dsimp only at ho2 ⊢
  obtain rfl : 39 = n2 := HLB.out.symm.trans ho2.lenb
  have hb2 := hbl1.trans (hbl2.mono hbl1.size)
  clear hi1 hbl1 hbl2
  go_wp2_with fail
  refine (Take_any A2 39 c2 _ _ ho2.rd (by omega)).mono ?_
  rintro e w3 ⟨A3, n3, c3, rfl, ho3, hbl3⟩
  rw [HT.out] at ho3 ⊢
  dsimp only at ho3 ⊢
  obtain rfl : 1 = n3 := ho3.len
  have hb3 := hb2.trans (hbl3.mono hb2.size)
  have hidx := run_index_rd (P := Try.prog) (A := A3) (n := 1) (c := c3) ei ho3.its.rd.nil ho3.its.rd.le 0 (by omega)
  have hidx' : ∀ W, (Instr.indexAt 22 (.slice A3 1 c3) (.int .i64 0)).run Try.prog W = .ok (.pointer (some (at_ A3 0))) W := hidx
  have hname : w3.cell? (at_ A3 0) = some (.string ⟨#[97]⟩) := ho3.its.name (k := 0) rfl
  clear hidx hbl3 ho2
  go_wp2_with fail
  refine (HA.out _).mono ?_
  rintro e w4 ⟨rfl, rfl⟩
  go_wp2_with fail
  refine (HD.out _).mono ?_
  rintro e w4 ⟨rfl, rfl⟩
  go_wp2_with fail
  go_ret
  exact ⟨rfl, hb3⟩

set_option maxRecDepth 20000 in
theorem folderNames_walk {w : World} (s : ByteArray) (_ : s.size ≤ maxLen) : Calls Try.prog 5 #[.string s] w fun e w' => e = .returned (.bool true) ∧ Below w.heap.size w w' := by
  have HB := Lib.hid (begun_any w)
  by_cases hs : (1024 : Int) < s.size
  · go_enter Try.func5, Try.ntmps5
    go_wp2_with fail
    refine HB.out.mono ?_
    rintro e w1 ⟨rfl, hb1⟩
    go_wp2_with fail
    go_ret
    exact ⟨rfl, hb1⟩
  · have hs' : (s.size : Int) ≤ 1024 := by omega
    have HM := Lib.hid (MayName_any s)
    have HR := Lib.hid (RMayName_any s (by omega))
    clear hs
    go_enter Try.func5, Try.ntmps5
    go_wp2_with fail
    refine HB.out.mono ?_
    rintro e w1 ⟨rfl, hb1⟩
    go_wp2_with fail
    refine (HM.out _).mono ?_
    rintro e w2 ⟨rfl, rfl⟩
    go_wp2_with fail
    refine (HR.out _).mono ?_
    rintro e w2 ⟨rfl, rfl⟩
    go_wp2_with fail
    go_ret
    exact ⟨by simp, hb1⟩

end Go.Proofs.Ytgdbdhfomlkpdaa
