/-
  The law ChunkWrites.
-/
import Derived.Test.YthijpbakhnakeaaDoorHexT
import Derived.Test.YthijpbakhnakeaaDoorHexH
import Derived.Test.YthijpbakhnakeaaDoorChI
import Derived.Test.YthijpbakhnakeaaDoorLawA
namespace Go.Proofs.YthijpbakhnakeaaDoor
open Go.RowKit

theorem RChunks_any {w : World} (A : Option Addr) (n c : Nat) (l : List UInt8) (h : Rd w 1 A n c (l.map b8)) (hn : n ≤ 65536) (sz : Int) :
    Calls Tryd.prog 9 #[.slice A n c, .int .i64 sz] w fun e w' => ∃ A' n' c', e = .returned (.slice A' n' c') ∧ Own w' w.heap.size 5 1 A' n' c' ((chunksL (max sz 1).toNat n l).map b8) ∧ Below w.heap.size w w' :=
  RChunks_nat A n c l h hn sz _ (Int.toNat_of_nonneg (by omega))

set_option maxRecDepth 20000 in
set_option maxHeartbeats 4000000 in
theorem chunkWrites_walk {w : World} (ht : HTab w) (A : Option Addr) (n c : Nat) (l : List UInt8) (h : Rd w 1 A n c (l.map b8)) (sz : Int) (_ : -9223372036854775808 ≤ sz) (_ : sz ≤ 9223372036854775807) :
    Calls Tryd.prog 3 #[.slice A n c, .int .i64 sz] w fun e w' => e = .returned (.bool true) ∧ Below w.heap.size w w' := by
  have HB := Lib.hid (begun_any w)
  have HT := Lib.hid (fun W (hb : Below w.heap.size w W) => ht.below hb)
  clear ht
  by_cases hn : (8192 : Int) < n
  · go_enter Tryd.func3, Tryd.ntmps3
    go_wp2_with fail
    refine HB.out.mono ?_
    rintro e w1 ⟨rfl, hb1⟩
    have hn' : decide ((8192 : Int) < n) = true := decide_eq_true hn
    clear hn
    go_wp2_with fail
    go_ret
    exact ⟨rfl, hb1⟩
  have hn' : decide ((8192 : Int) < n) = false := decide_eq_false hn
  have hn2 : n ≤ 8192 := by omega
  clear hn
  go_enter Tryd.func3, Tryd.ntmps3
  go_wp2_with fail
  refine HB.out.mono ?_
  rintro e w1 ⟨rfl, hb1⟩
  go_wp2_with fail
  refine (Twin_any A n c l _ (h.below hb1) (by omega)).mono ?_
  rintro e w2 ⟨A2, rfl, ho2, hbl2⟩
  have hb2 := hb1.trans (hbl2.mono hb1.size)
  have hx2 : Rd w2 1 A2 n (n + 3) (l.map b8) := by
    have := (ho2.cut0 (hi := n) (by omega)).rd
    have e1 : ((l ++ e5).map b8).take n = l.map b8 := by
      rw [List.map_append, List.take_left' (by rw [List.length_map, h.lenb])]
    rwa [Nat.mul_one, e1] at this
  have hlt2 := fun g hg => (ho2.lt g hg).2
  go_wp2_with fail
  refine (Chunks_any A2 n (n + 3) l hx2 (by omega) sz (HT.out _ hb2)).mono ?_
  rintro e w3 ⟨A3, n3, c3, rfl, ho3, hbl3⟩
  have hb3 := hb2.trans (hbl3.mono hb2.size)
  obtain ⟨X, hX⟩ : ∃ X, chunksL (max sz 1).toNat n l = X := ⟨_, rfl⟩
  rw [hX] at ho3
  have HR := Lib.hid (RChunks_any A n c l (h.below hb3).drew (by omega) sz)
  rw [hX] at HR
  have hs3 := fun b : Later w3 => str_rd (ho3.below b.below).rd
  have hdr := (Below.refl w3.heap.size w3).drew
  clear hX
  go_wp2_with fail
  refine wp_region_mixb [0, 1, 2, 3, 4, 5, 6, 7, 8, 9, 10, 11, 12] (by kernel_rfl) (by kernel_rfl) (by rfl) (by kernel_rfl) (fun _ _ _ _ _ h => h) ?_
  iterate 4 (refine mix_read (o := ⟨_, _, _, _, _, _⟩) (by rfl) (by rfl) ?_; go_big_quiet_step (fail); refine wpQuiet_nil ?_)
  refine mixb_call (o := ⟨_, _, _, _, _, _⟩) (by rfl) (by rfl) (by rfl) (fun K hK => ?_)
  go_wp2_with fail
  refine HR.out.mono ?_
  rintro e w4 ⟨A4, n4, c4, rfl, ho4, hbl4⟩
  have hbl34 := hdr.trans hbl4
  have hs4 := fun b : Later w4 => str_rd (ho4.below b.below).rd
  refine hK _ _ hbl34 ?_
  clear hK HR
  iterate 5 (refine mix_read (o := ⟨_, _, _, _, _, _⟩) (by rfl) (by rfl) ?_; go_big_quiet_step (fail); refine wpQuiet_nil ?_)
  have hb4 := hb3.trans (hbl34.mono hb3.size)
  have hk4 := (ho2.below hbl3).below hbl34
  have hrd4 := h.below hb4
  refine mixb_call_as (o := ⟨_, _, _, _, _, _⟩) (by rfl) (by rfl) (by rfl) (fun K hK => ?_)
  go_wp2_with fail
  refine (Kept_true A2 n A c l _ hk4.rd hrd4 (by omega)).mono ?_
  rintro e w5 ⟨rfl, rfl⟩
  refine hK _ _ (Below.refl _ _) ?_
  clear hK
  iterate 2 (refine mix_read (o := ⟨_, _, _, _, _, _⟩) (by rfl) (by rfl) ?_; go_big_quiet_step (fail); refine wpQuiet_nil ?_)
  refine mix_done ?_
  have ho34 := ho3.below hbl34
  have hs34 := hbl34.size
  have hs23 := hbl3.size
  have HSP := Lib.hid (Spoil_any _ A3 n3 c3 _ _ ho34)
  clear hs3 hs4
  go_wp2_with fail
  refine HSP.out.mono ?_
  rintro e w6 ⟨rfl, hg6, hz6⟩
  have hA3 := fun g hg => (ho34.lt g hg).1
  have hb6 := hb4.grown hg6 hb4.size (fun g hg => Nat.le_trans hb2.size (hA3 g hg))
  have hx6 : Rd w6 1 A2 n (n + 3) (l.map b8) := ((hx2.below hbl3).below hbl34).grown hg6 (fun g hg e => by
    have h1 := hA3 g e
    have h2 := hlt2 g hg
    omega)
  have q1 := str_rd hx6
  have q2 := str_rd (h.below hb6)
  clear hz6
  go_wp2_with fail
  go_ret
  exact ⟨rfl, hb6⟩

end Go.Proofs.YthijpbakhnakeaaDoor
