/-
  FolderTurned.
-/
import Derived.Test.YtgdbdhfomlkpdaaFoN
import Derived.Test.YtgdbdhfomlkpdaaFoT
import Derived.Test.YtgdbdhfomlkpdaaFoO
import Derived.Test.YtgdbdhfomlkpdaaPlace
namespace Go.Proofs.Ytgdbdhfomlkpdaa
open Go.RowKit

theorem decide_iff' {P : Prop} {v : Int} (h : P ↔ v = 0) : @decide P (Classical.propDecidable _) = (v == 0) := by
  by_cases hp : P
  · rw [@decide_eq_true _ (Classical.propDecidable _) hp]
    have := h.1 hp
    simp [this]
  · rw [@decide_eq_false _ (Classical.propDecidable _) hp]
    have : ¬ v = 0 := fun e => hp (h.2 e)
    simp [this]

set_option maxRecDepth 20000 in
set_option maxHeartbeats 1000000 in
theorem folderTurned_walk {w : World} (A : Option Addr) (n c : Nat) (l : List It) (h : Its w A n c l) (k : Int) (hk0 : -9223372036854775808 ≤ k) (hk1 : k ≤ 9223372036854775807) (v : Int) (hv0 : 0 ≤ v) (hv1 : v ≤ 255) :
    Calls Try.prog 7 #[.slice A n c, .int .i64 k, .int .u8 v] w fun e w' => e = .returned (.bool true) ∧ Below w.heap.size w w' := by
  have HB := Lib.hid (begun_any w)
  by_cases hL : lightL l = false
  · go_enter Try.func7, Try.ntmps7
    go_wp2_with fail
    refine HB.out.mono ?_
    rintro e w1 ⟨rfl, hb1⟩
    have HBy := Lib.hid (Bytes_any (h.below hb1))
    go_wp2_with fail
    refine HBy.out.mono ?_
    rintro e w2 ⟨A2, n2, c2, rfl, ho2, hb2⟩
    have hb12 := hb1.trans (hb2.mono hb1.size)
    have HLi := Lib.hid (Light_any (h.below hb12))
    rw [hL] at HLi
    clear hL ho2
    go_wp2_with fail
    refine HLi.out.mono ?_
    rintro e w3 ⟨rfl, rfl⟩
    go_wp2_with fail
    go_ret
    exact ⟨rfl, hb12⟩
  have hL' : lightL l = true := by simpa using hL
  clear hL
  obtain ⟨b, E, hR⟩ : ∃ b E, foR l = (b, E) := ⟨_, _, rfl⟩
  by_cases hE : E ≠ 0
  · have hE' : (E != 0) = true := by simpa using hE
    go_enter Try.func7, Try.ntmps7
    go_wp2_with fail
    refine HB.out.mono ?_
    rintro e w1 ⟨rfl, hb1⟩
    have HBy := Lib.hid (Bytes_any (h.below hb1))
    rw [hR] at HBy
    clear hR hE
    go_wp2_with fail
    refine HBy.out.mono ?_
    rintro e w2 ⟨A2, n2, c2, rfl, ho2, hb2⟩
    have hb12 := hb1.trans (hb2.mono hb1.size)
    have HLi := Lib.hid (Light_any (h.below hb12))
    rw [hL'] at HLi
    clear hL' ho2
    go_wp2_with fail
    refine HLi.out.mono ?_
    rintro e w3 ⟨rfl, rfl⟩
    go_wp2_with fail
    go_ret
    exact ⟨rfl, hb12⟩
  obtain rfl : E = 0 := by simpa using hE
  clear hE
  have hbl : 3 ≤ b.length ∧ b.length ≤ 4000 := by
    obtain ⟨a1, a2, rfl⟩ := foR_inv hR
    refine ⟨?_, by omega⟩
    rw [foB_three a1]
    simp
  obtain ⟨hb3, hb4⟩ := hbl
  obtain ⟨p, hp⟩ : ∃ p, placeP k b.length = p := ⟨_, rfl⟩
  have hpl := placeP_lt k b.length (by omega)
  have HPl := Lib.hid (fun W => Place_any k b.length W hk0 hk1 (by omega))
  rw [hp] at hpl HPl
  obtain ⟨x, hx⟩ : ∃ x, b[p]? = some x := ⟨_, List.getElem?_eq_getElem hpl⟩
  obtain ⟨V, rfl⟩ := Int.eq_ofNat_of_zero_le hv0
  have hxr := xor_u8 x V (by omega)
  obtain ⟨y, hy⟩ : ∃ y, UInt8.ofNat (x.toNat ^^^ V) = y := ⟨_, rfl⟩
  have htu := turned_iff hx V (by omega)
  rw [hy] at hxr htu
  have hd : b.set p y = b ↔ (V : Int) = 0 := htu.trans (by omega)
  have HTT := Lib.hid (take_turn hR h.ok hd)
  obtain ⟨nb, hnb⟩ : ∃ nb, b.length = nb := ⟨_, rfl⟩
  obtain ⟨X, hX⟩ : ∃ X, (x.toNat : Int) = X := ⟨_, rfl⟩
  obtain ⟨Y, hY⟩ : ∃ Y, (y.toNat : Int) = Y := ⟨_, rfl⟩
  rw [hnb] at hb3 hb4 hpl HPl
  rw [hX, hY] at hxr
  have HNB := Lib.hid hnb
  have HX := Lib.hid hX
  have HY := Lib.hid hY
  have HXX := Lib.hid hx
  have HR := Lib.hid hR
  have HXR := Lib.hid hxr
  clear hp hy htu hd hnb hX hY hx hR hxr
  go_enter Try.func7, Try.ntmps7
  go_wp2_with fail
  refine HB.out.mono ?_
  rintro e w1 ⟨rfl, hb1⟩
  have HBy := Lib.hid (Bytes_any (h.below hb1))
  rw [HR.out] at HBy
  go_wp2_with fail
  refine HBy.out.mono ?_
  rintro e w2 ⟨A2, n2, c2, rfl, ho2, hb2⟩
  obtain rfl : nb = n2 := HNB.out.symm.trans ho2.lenb
  have hb12 := hb1.trans (hb2.mono hb1.size)
  have HLi := Lib.hid (Light_any (h.below hb12))
  rw [hL'] at HLi
  clear hL' HBy
  go_wp2_with fail
  refine HLi.out.mono ?_
  rintro e w3 ⟨rfl, rfl⟩
  have hip := run_index_rd (P := Try.prog) (A := A2) (n := nb) (c := c2) eb ho2.rd.nil ho2.rd.le p (by omega)
  rw [Nat.mul_one] at hip
  have hcp : w2.cell? (at_ A2 p) = some (.int .u8 X) := (ho2.rd.cell p (b8 x) (by rw [List.getElem?_map, HXX.out]; rfl)).trans (by rw [← HX.out]; rfl)
  have hfr := ho2.free (k := p) (by have := ho2.rd.le; omega)
  go_wp2_with fail
  refine (HPl.out _).mono ?_
  rintro e w3 ⟨rfl, rfl⟩
  go_wp2_with fail
  have hpc : p < c2 := by have := ho2.rd.le; omega
  have ho3 := ho2.store hpc (.int .u8 Y)
  have hb3' : Below w.heap.size w (w2.setCell (at_ A2 p) (.int .u8 Y)) := below_store hb12 (ho2.mono hb1.size) hpc _
  have ho4 : Own (w2.setCell (at_ A2 p) (.int .u8 Y)) w1.heap.size 5 1 A2 nb c2 ((b.set p y).map b8) := by
    rw [← HY.out] at ho3 ⊢
    rwa [map_set_b8] at ho3
  rw [HXR.out]
  obtain ⟨w4, hw4⟩ : ∃ w4, w2.setCell (at_ A2 p) (.int .u8 Y) = w4 := ⟨_, rfl⟩
  rw [hw4] at ho4 hb3' ⊢
  have hz4 : w1.heap.size ≤ w4.heap.size := by
    rw [← hw4]
    simpa [World.setCell] using hb2.size
  clear ho3 hw4 hip hcp hfr ho2 hb2 hb12 HLi HXR HXX HPl HR
  refine (Take_any A2 nb c2 _ _ ho4.rd (by omega)).mono ?_
  rintro e w5 ⟨A5, n5, c5, rfl, ho5, hbl5⟩
  have hb5 := hb3'.trans (hbl5.mono hb3'.size)
  rcases HTT.out with ⟨hT, hV⟩ | ⟨m, hT, hRm, hiff⟩
  · rw [hT] at ho5 ⊢
    dsimp only at ho5 ⊢
    obtain rfl : 0 = n5 := ho5.len
    have hV' : ((V : Int) != 0) = true := by simpa using hV
    clear HTT hT hV
    go_wp2_with fail
    go_ret
    exact ⟨rfl, hb5⟩
  · rw [hT] at ho5 ⊢
    dsimp only at ho5 ⊢
    have HBy := Lib.hid (Bytes_any ho5.its)
    rw [hRm] at HBy
    have HIF := Lib.hid (decide_iff' hiff)
    have HVV : (((V : Int) == 0) == ((V : Int) == 0)) = true := by simp
    clear HTT hT hRm hiff
    go_wp2_with fail
    refine HBy.out.mono ?_
    rintro e w6 ⟨A6, n6, c6, rfl, ho6, hbl6⟩
    have hb6 := hb5.trans (hbl6.mono hb5.size)
    have ho5' := ho5.below hbl6
    have ho46 := (ho4.below hbl5).below hbl6
    have hs1 := str_rd ho6.rd
    have hs2 := str_rd ho46.rd
    have HA := Lib.hid (Alike_any ho5'.its (h.below hb6))
    rw [HIF.out] at HA
    clear HBy
    go_wp2_with fail
    refine HA.out.mono ?_
    rintro e w7 ⟨rfl, hb7⟩
    go_wp2_with fail
    go_ret
    exact ⟨rfl, hb6.trans (hb7.mono hb6.size)⟩

end Go.Proofs.Ytgdbdhfomlkpdaa
