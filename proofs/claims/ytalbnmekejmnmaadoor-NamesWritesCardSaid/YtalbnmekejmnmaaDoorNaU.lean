/-
  NamesWrites.
-/
import Derived.Test.YtalbnmekejmnmaaDoorNaS
import Derived.Test.YtalbnmekejmnmaaDoorNaT
namespace Go.Proofs.YtalbnmekejmnmaaDoor
open Go.RowKit

theorem twin_rd {A : Option Addr} {n : Nat} {l : List UInt8} {w : World} (h : Rd w 1 A (n + 3) (n + 3) ((l ++ e5).map b8)) (hl : l.length = n) : Rd w 1 A n (n + 3) (l.map b8) :=
  ⟨by simpa using hl, by omega, h.max, h.nil, fun j u hu => h.cell j u (by
    rw [List.map_append, List.getElem?_append_left (List.getElem?_eq_some_iff.1 hu).1]
    exact hu)⟩

set_option maxRecDepth 20000 in
set_option maxHeartbeats 2000000 in
theorem namesWrites_walk {w : World} (ht : Tab w) (A : Option Addr) (n c : Nat) (l : List UInt8) (h : Rd w 1 A n c (l.map b8)) (v : Int) (hv0 : -9223372036854775808 ≤ v) (hv1 : v ≤ 9223372036854775807) :
    Calls Tryd.prog 4 #[.slice A n c, .int .i64 v] w fun e w' => e = .returned (.bool true) ∧ Below w.heap.size w w' := by
  have HB := Lib.hid (begun_any w ht)
  have hln := h.lenb
  by_cases hs : (4096 : Int) < n
  · go_enter Tryd.func4, Tryd.ntmps4
    go_wp2_with fail
    refine HB.out.mono ?_
    rintro e w1 ⟨rfl, hb1⟩
    go_wp2_with fail
    go_ret
    exact ⟨rfl, hb1⟩
  · have hs' : (n : Int) ≤ 4096 := by omega
    have HP := Lib.hid (fun W hW => Print_any v hv0 hv1 W hW)
    have HR := Lib.hid (RPrint_any v hv0 hv1)
    clear hs hv0 hv1
    go_enter Tryd.func4, Tryd.ntmps4
    go_wp2_with fail
    refine HB.out.mono ?_
    rintro e w1 ⟨rfl, hb1⟩
    go_wp2_with fail
    refine (Twin_any A n c l _ (h.below hb1) (by omega)).mono ?_
    rintro e w2 ⟨At, rfl, hot, hbl2⟩
    have hb2 := hb1.trans (hbl2.mono hb1.size)
    have h2 := h.below hb2
    have ht2 := hot.rd
    clear hot hbl2 hb1
    go_wp2_with fail
    refine (Hex_any At n _ l _ (twin_rd ht2 hln) (by omega)).mono ?_
    rintro e w3 ⟨rfl, hbl3⟩
    have hb3 := hb2.trans (hbl3.mono hb2.size)
    have h3 := h2.below hbl3
    have ht3 := ht2.below hbl3
    clear h2 ht2 hbl3 hb2
    go_wp2_with fail
    refine (RHex_any A n c l _ h3 (by omega)).mono ?_
    rintro e w4 ⟨rfl, hbl4⟩
    have hb4 := hb3.trans (hbl4.mono hb3.size)
    have h4 := h3.below hbl4
    have ht4 := ht3.below hbl4
    have HT4 := Lib.hid (ht.below hb4)
    clear h3 ht3 hbl4 hb3
    go_wp2_with fail
    refine (HP.out _ HT4.out).mono ?_
    rintro e w5 ⟨rfl, hbl5⟩
    have hb5 := hb4.trans (hbl5.mono hb4.size)
    have h5 := h4.below hbl5
    have ht5 := ht4.below hbl5
    clear h4 ht4 hbl5 hb4 HT4
    go_wp2_with fail
    refine (HR.out _).mono ?_
    rintro e w6 ⟨rfl, rfl⟩
    go_wp2_with fail
    refine (Kept_true At n A c l _ ht5 h5 (by omega)).mono ?_
    rintro e w7 ⟨rfl, rfl⟩
    go_wp2_with fail
    go_ret
    exact ⟨rfl, hb5⟩

end Go.Proofs.YtalbnmekejmnmaaDoor
