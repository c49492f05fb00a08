/-
  Package reply: begun.
-/
import Derived.Test.YtogkmlodcdgegaaDoorReM
import Derived.Test.YtogkmlodcdgegaaDoorReF
import Derived.Test.YtogkmlodcdgegaaDoorOpenR
import Derived.Lib.SlBytesConst
namespace Go.Proofs.YtogkmlodcdgegaaDoor
open Go.RowKit

theorem tab_of {W : World} (h : laidMetH Tryd.prog Rows.replyWritesRow.laid W) : Tab W := by
  rw [MakeChecks.laidMetH_plain _ _ _ (by kernel_rfl)] at h
  obtain ⟨ps, ⟨_, _, _, _, _, _, _, _, _, _, ⟨_, _, _, _, _, _, _, _, _, _, ⟨g, t, cs, f, p, q, hg, ht, hv, hd, _, _⟩, _⟩, _⟩, _, _⟩ := h
  have e : (Rows.laid_internal_strconv_uint64pow10 : DataW Unit) = Lib.tabData .u64 Lib.pow10Tab := by rfl
  obtain ⟨g', hg', ht'⟩ := pow_global
  obtain rfl := Option.some.inj (hg'.symm.trans hg)
  obtain rfl := Option.some.inj (ht'.symm.trans ht)
  rw [e] at hd
  unfold Tab Lib.TabIs
  rw [hv, ← Lib.cells_of_tab Tryd.underlying63 Tryd.underlying55 (by kernel_rfl) (by kernel_rfl) hd]

def begL : List UInt8 := [72, 84, 84, 80, 47, 49, 46, 49, 32, 50, 48, 48, 32, 79, 75, 13, 10, 67, 111, 110, 116, 101, 110, 116, 45, 76, 101, 110, 103, 116, 104, 58, 32, 49, 13, 10, 13, 10, 97]
theorem beg_bytes : bytesR 200 [97] false = (begL, 0) := by decide +kernel
theorem is200 : isSt 200 := .inl rfl
theorem beg_take : takeP begL = ⟨200, [97], false, 39, 0⟩ := by
  have := take_back is200 [97] (by decide) false []
  rw [beg_bytes, List.append_nil] at this
  exact this
/-- Of a text that is short enough, any run of digits is. -/
theorem run_small {l : List UInt8} (h : l.length ≤ 4096) : ∀ v, isSt v → Lib.hasPrefix l (headL v) = true → runL (l.drop (headL v).length) ≤ 4096 := fun v _ _ => by
  have := runL_le (l.drop (headL v).length)
  rw [List.length_drop] at this
  omega

set_option maxRecDepth 20000 in
set_option maxHeartbeats 4000000 in
theorem begun_any (w : World) (ht : Tab w) : Calls Tryd.prog 7 #[] w fun e w' => e = .returned (.bool true) ∧ Below w.heap.size w w' := by
  have HT := Lib.hid (fun W (hb : Below w.heap.size w W) => ht.below hb)
  have hcv := fun W => Lib.run_convert_bytes_const (P := Tryd.prog) W 22 5 #[.int .u8 97] 1 1 Tryd.underlying22 Tryd.underlying5
  have hrd : Rd (w.alloc (.cells #[.int .u8 97] 5 (1, 2))) 1 (some ⟨w.heap.size, 0, none⟩) 1 1 ([(97 : UInt8)].map b8) := (Own.new (base := 0) (e := 5) (size := 1) w (([(97 : UInt8)].map b8).toArray) (1, 2) 1 1 ([(97 : UInt8)].map b8) (Nat.zero_le _) (Nat.le_refl _) (by decide) rfl (by simp) (fun j u h => by simpa using h) (fun j h => by omega)).rd
  have hb1 := (Below.refl w.heap.size w).alloc (Nat.le_refl _) (.cells #[.int .u8 97] 5 (1, 2))
  have HB1 := Lib.hid hb1
  have HBY := Lib.hid (Bytes_any (l := [97]) hrd (by decide) 200 false (HT.out _ hb1))
  rw [beg_bytes] at HBY
  clear hrd hb1 ht
  go_enter Tryd.func7, Tryd.ntmps7
  go_wp2_with fail
  refine HBY.out.mono ?_
  rintro e w2 ⟨A2, n2, c2, rfl, ho2, hbl2⟩
  obtain rfl : 39 = n2 := ho2.lenb
  have hb2 := HB1.out.trans (hbl2.mono HB1.out.size)
  have hs2 := str_rd ho2.rd
  have HTK := Lib.hid (Take_any ho2.rd (by decide) (run_small (by decide)) (HT.out _ hb2))
  rw [beg_take] at HTK
  clear HBY hbl2
  go_wp2_with fail
  refine HTK.out.mono ?_
  rintro e w3 ⟨A3, n3, c3, rfl, ho3, hbl3⟩
  have hs3 := str_rd ((ho2.below hbl3).alloc (.cells #[.int .i64 200, .slice A3 n3 c3, .bool false] 24)).rd
  have hb3 := hb2.trans (hbl3.mono hb2.size)
  have hb4 := hb3.alloc hb3.size (.cells #[.int .i64 200, .slice A3 n3 c3, .bool false] 24)
  clear HTK hs2 hbl3
  unfold rpA
  unfold begL at hs3
  go_wp2_with fail
  go_ret
  exact ⟨rfl, hb4⟩

end Go.Proofs.YtogkmlodcdgegaaDoor
