/-
  FolderReads.
-/
import Derived.Test.YtgdbdhfomlkpdaaFoN
import Derived.Test.YtgdbdhfomlkpdaaFoR
import Derived.Test.YtgdbdhfomlkpdaaFoO
namespace Go.Proofs.Ytgdbdhfomlkpdaa
open Go.RowKit

theorem decide_self (l : List It) : @decide (l = l) (Classical.propDecidable _) = true := @decide_eq_true _ (Classical.propDecidable _) rfl
theorem Its.grown {w w' : World} {row : Option Nat} {A : Option Addr} {n c : Nat} {l : List It} (h : Its w A n c l) (hg : w.grownBy w' row) (hne : ∀ g, blk A = some g → row ≠ some g) : Its w' A n c l := ⟨h.rd.grown hg hne, h.ok⟩

set_option maxRecDepth 20000 in
set_option maxHeartbeats 1000000 in
theorem folderReads_walk {w : World} (A : Option Addr) (n c : Nat) (l : List UInt8) (h : Rd w 1 A n c (l.map b8)) :
    Calls Try.prog 4 #[.slice A n c] w fun e w' => e = .returned (.bool true) ∧ Below w.heap.size w w' := by
  have HB := Lib.hid (begun_any w)
  by_cases hn : (8192 : Int) < n
  · go_enter Try.func4, Try.ntmps4
    go_wp2_with fail
    refine HB.out.mono ?_
    rintro e w1 ⟨rfl, hb1⟩
    have hn' : decide ((8192 : Int) < n) = true := decide_eq_true hn
    clear hn
    go_wp2_with fail
    go_ret
    exact ⟨rfl, hb1⟩
  have hn' : decide ((8192 : Int) < n) = false := decide_eq_false hn
  have hn2 : n ≤ 8192 := by omega
  clear hn
  go_enter Try.func4, Try.ntmps4
  go_wp2_with fail
  refine HB.out.mono ?_
  rintro e w1 ⟨rfl, hb1⟩
  go_wp2_with fail
  refine (Twin_any A n c l _ (h.below hb1) (by omega)).mono ?_
  rintro e w2 ⟨A2, rfl, ho2, hbl2⟩
  have hb2 := hb1.trans (hbl2.mono hb1.size)
  have hx2 : Rd w2 1 A2 n (n + 3) (l.map b8) := by
    have := (ho2.cut0 (hi := n) (by omega)).rd
    have e1 : ((l ++ e5).map b8).take n = l.map b8 := by
      rw [List.map_append, List.take_left' (by rw [List.length_map, h.lenb])]
    rwa [Nat.mul_one, e1] at this
  have hlt2 := fun g hg => (ho2.lt g hg).2
  go_wp2_with fail
  refine (Take_any A2 n (n + 3) l _ hx2 (by omega)).mono ?_
  rintro e w3 ⟨A3, n3, c3, rfl, ho3, hbl3⟩
  have hb3 := hb2.trans (hbl3.mono hb2.size)
  go_wp2_with fail
  refine (RTake_any A n c l _ (h.below hb3) (by omega)).mono ?_
  rintro e w4 ⟨A4, n4, c4, rfl, ho4, hbl4⟩
  have hb4 := hb3.trans (hbl4.mono hb3.size)
  have ho34 := ho3.below hbl4
  have hbl24 := hbl3.trans (hbl4.mono hbl3.size)
  have ho24 := ho2.below hbl24
  have hrd4 := h.below hb4
  obtain ⟨E, hE⟩ : ∃ E, (takeF l).2 = E := ⟨_, rfl⟩
  obtain ⟨M, hM⟩ : ∃ M, (takeF l).1 = M := ⟨_, rfl⟩
  rw [hE]
  rw [hM] at ho34 ho4
  have hEE : (E == E) = true := by simp
  have hs3 := hbl3.size
  clear hE hM ho3 hbl3 hbl4 hx2 ho2 hbl2
  go_wp2_with fail
  refine (Kept_true A2 n A c l _ ho24.rd hrd4 (by omega)).mono ?_
  rintro e w5 ⟨rfl, rfl⟩
  go_wp2_with fail
  refine (Spoil_any w1.heap.size A2 n (n + 3) _ _ (ho24.cut0 (hi := n) (by omega))).mono ?_
  rintro e w6 ⟨rfl, hg6, hz6⟩
  have hA2 := fun g hg => (ho24.lt g hg).1
  have hb6 := hb4.grown hg6 hb4.size (fun g hg => Nat.le_trans hb1.size (hA2 g hg))
  have hx6 : Its w6 A3 n3 c3 M := ho34.its.grown hg6 (fun g hg e => by
    have h1 := (ho34.own.lt g hg).1
    have h2 := hlt2 g e
    omega)
  have hy6 : Its w6 A4 n4 c4 M := ho4.its.grown hg6 (fun g hg e => by
    have h1 := (ho4.own.lt g hg).1
    have h2 := hlt2 g e
    omega)
  have HA := Lib.hid (Alike_any hx6 hy6)
  rw [decide_self] at HA
  clear hx6 hy6 hg6 hz6
  go_wp2_with fail
  refine HA.out.mono ?_
  rintro e w7 ⟨rfl, hbl7⟩
  go_wp2_with fail
  go_ret
  exact ⟨rfl, hb6.trans (hbl7.mono hb6.size)⟩

end Go.Proofs.Ytgdbdhfomlkpdaa
