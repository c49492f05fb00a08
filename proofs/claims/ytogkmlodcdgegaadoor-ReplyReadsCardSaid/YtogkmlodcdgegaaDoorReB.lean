/-
  Package reply: Bytes.
-/
import Derived.Test.YtogkmlodcdgegaaDoorReA
import Derived.Test.YtogkmlodcdgegaaDoorElem
import Derived.Test.YtogkmlodcdgegaaDoorMixD
import Derived.Test.YtogkmlodcdgegaaDoorNaE
import Derived.Lib.ItoaLen
namespace Go.Proofs.YtogkmlodcdgegaaDoor
open Go.RowKit

theorem cell_of {w : World} {g i : Nat} {cs : Array Value} {t : TypeId} {fr : Nat × Nat} {v : Value} (h : w.heap[g]? = some (.cells cs t fr)) (hv : cs[i]? = some v) : w.cell? ⟨g, i, none⟩ = some v := by
  simp [World.cell?, h, hv]
theorem heap_new (w : World) (o : Obj) : (w.alloc o).heap[w.heap.size]? = some o := by
  show (w.heap.push o)[w.heap.size]? = _
  simp
/-- What stands between a body's length and the body. -/
def tailL (c : Bool) : List UInt8 := if c then [13, 10, 67, 111, 110, 110, 101, 99, 116, 105, 111, 110, 58, 32, 99, 108, 111, 115, 101, 13, 10, 13, 10] else [13, 10, 13, 10]
theorem tail_any (c : Bool) (w : World) : Calls Tryd.prog 21 #[.bool c] w fun e w' => e = .returned (.string ⟨(tailL c).toArray⟩) ∧ w = w' := by
  cases c
  all_goals
    go_enter Tryd.func21, Tryd.ntmps21
    go_wp2_with fail
    go_ret
    exact ⟨rfl, rfl⟩
/-- A reply's bytes, and the error's number. -/
def bytesR (v : Int) (l : List UInt8) (c : Bool) : List UInt8 × Int := if isSt v then (headL v ++ Lib.itoa (l.length : Int) ++ tailL c ++ l, 0) else ([], 1)
/-- A reply as a value. -/
def rpA (v : Int) (A : Option Addr) (n c : Nat) (b : Bool) : Array Value := #[.int .i64 v, .slice A n c, .bool b]
theorem headL_len {v : Int} (hv : isSt v) : (headL v).length ≤ 62 := by
  have h1 := itoa_3 v hv
  have h2 := (reason_some hv).2
  unfold headL
  simp only [List.length_append, List.length_cons, List.length_nil]
  omega
theorem itoa_len (n : Nat) (h : n ≤ 1073741824) : (Lib.itoa (n : Int)).length ≤ 21 := Lib.itoa_length_le _ (by omega) (by omega)
theorem size_rp : (Tryd.prog.info? 24).map (·.size) = some 3 := by kernel_rfl

set_option maxRecDepth 20000 in
set_option maxHeartbeats 4000000 in
theorem Bytes_any {w : World} {A : Option Addr} {n c : Nat} {l : List UInt8} (h : Rd w 1 A n c (l.map b8)) (hn : n ≤ 1073741824) (v : Int) (b : Bool) (ht : Tab w) :
    Calls Tryd.prog 9 #[.agg (rpA v A n c b)] w fun e w' => ∃ A' n' c', e = .returned (.tuple #[.slice A' n' c', .int .i64 (bytesR v l b).2]) ∧ Own w' w.heap.size 5 1 A' n' c' ((bytesR v l b).1.map b8) ∧ Below w.heap.size w w' := by
  have HR := Lib.hid (Reason_any v)
  have hln := h.lenb
  by_cases hv : isSt v
  · have hbr : bytesR v l b = (headL v ++ Lib.itoa (l.length : Int) ++ tailL b ++ l, 0) := if_pos hv
    rw [hbr, hln]
    obtain ⟨RB, hRB⟩ : ∃ RB, (⟨(reasonL v).toArray⟩ : ByteArray) = RB := ⟨_, rfl⟩
    have hne : RB.toList.isEmpty = false := empty_ne RB (by rw [← hRB]; exact (reason_some hv).1)
    rw [hRB] at HR
    obtain ⟨HB, hHB⟩ : ∃ HB, (⟨(headL v).toArray⟩ : ByteArray) = HB := ⟨_, rfl⟩
    have hH : HB.size ≤ 62 := by rw [← hHB]; exact headL_len hv
    obtain ⟨PB, hPB⟩ : ∃ PB, printB (n : Int) = PB := ⟨_, rfl⟩
    have hP : PB.size ≤ 21 := by rw [← hPB]; exact itoa_len n hn
    obtain ⟨TB, hTB⟩ : ∃ TB, (⟨(tailL b).toArray⟩ : ByteArray) = TB := ⟨_, rfl⟩
    have hT : TB.size ≤ 23 := by rw [← hTB]; cases b <;> decide
    have HH := Lib.hid (fun W hb => head_any hv W (ht.below hb))
    rw [hHB] at HH
    have HP := Lib.hid (fun W (hb : Below w.heap.size w W) => Print_any (n : Int) (by omega) (by omega) W (ht.below hb))
    rw [hPB] at HP
    have HT := Lib.hid (tail_any b)
    rw [hTB] at HT
    have hcat : ((HB ++ PB ++ TB).data.toList.map b8 ++ l.map b8) = ((headL v ++ Lib.itoa (n : Int) ++ tailL b ++ l).map b8) := by
      rw [← List.map_append, ← hHB, ← hPB, ← hTB]
      unfold printB
      simp only [ByteArray.data_append, Array.toList_append, List.append_assoc]
    have HCAT := Lib.hid hcat
    have hsz : (HB ++ PB ++ TB).size = HB.size + PB.size + TB.size := by simp only [ByteArray.size_append]
    have HSZ := Lib.hid hsz
    have HV := Lib.hid h
    clear hRB hHB hPB hTB hcat hsz hln hbr h
    go_enter Tryd.func9, Tryd.ntmps9
    go_wp2_with (first
      | (refine wpList_box rfl _ _ rfl (rpA v A n c b) rfl ?_; intro w1 hg1 hb1 hz1; have h0 : ∀ x : Later w1, x.at'.cell? ⟨w.heap.size, 0, none⟩ = some (.int .i64 v) := fun x => cell_of ((x.below.block _ (by omega)).trans hg1) rfl; have h1 : ∀ x : Later w1, x.at'.cell? ⟨w.heap.size, 1, none⟩ = some (.slice A n c) := fun x => cell_of ((x.below.block _ (by omega)).trans hg1) rfl; have h2 : ∀ x : Later w1, x.at'.cell? ⟨w.heap.size, 2, none⟩ = some (.bool b) := fun x => cell_of ((x.below.block _ (by omega)).trans hg1) rfl; have h0' := h0 ⟨w1, Below.refl _ _⟩; clear hg1))
    refine (HR.out _).mono ?_
    rintro e w2 ⟨rfl, rfl⟩
    go_wp2_with fail
    refine wp_region_plan (MPlan.reads [0, 1, 3, 4, 5, 8, 9, 13, 14] (.one 2 (.one 6 (MPlan.reads [7, 10, 11] (.one 12 (.one 15 (MPlan.reads [16, 17] .fin))))))) (fun x => ∃ b : Later w1, x = b.at') (by kernel_rfl) (by kernel_rfl) (by kernel_rfl) (fun _ _ _ _ _ h => h) ⟨⟨w1.drew, (Below.refl _ _).drew⟩, rfl⟩ ?_
    iterate 9 (refine plan_read (o := ⟨_, _, _, _, _, _⟩) (by rfl) (by rfl) ?_; go_big_quiet_step (fail); refine wpQuiet_nil ?_)
    have hd1 := (Below.refl w1.heap.size w1).drew
    clear h0 h1 h2 h0'
    refine plan_one (o := ⟨_, _, _, _, _, _⟩) (by rfl) (fun K hK => ?_)
    go_wp2_with fail
    refine (HH.out _ (hb1.drew)).mono ?_
    rintro e w2 ⟨rfl, hb2⟩
    have hb12 := hd1.trans hb2
    go_wp2_with fail
    refine hK _ _ ⟨⟨w2, hb12⟩, rfl⟩ ?_
    clear hK
    refine plan_one (o := ⟨_, _, _, _, _, _⟩) (by rfl) (fun K hK => ?_)
    go_wp2_with fail
    refine (HP.out _ (hb1.trans (hb12.mono hb1.size))).mono ?_
    rintro e w3 ⟨rfl, hb3⟩
    have hb13 := hb12.trans (hb3.mono hb12.size)
    go_wp2_with fail
    refine hK _ _ ⟨⟨w3, hb13⟩, rfl⟩ ?_
    clear hK
    have hbw3 := hb1.trans (hb13.mono hb1.size)
    refine plan_read (o := ⟨_, _, _, _, _, _⟩) (by rfl) (by rfl) ?_
    go_big_quiet_step (fail)
    refine wpQuiet_nil ?_
    refine plan_quiet (o := ⟨_, _, _, _, _, _⟩) (by rfl) (by rfl) (.string TB) (fun W => by go_simp) (fun w' _ => HT.out w') ?_
    simp only [Act.put, List.setIfInBounds_toArray, List.set_cons_succ, List.set_cons_zero]
    iterate 1 (refine plan_read (o := ⟨_, _, _, _, _, _⟩) (by rfl) (by rfl) ?_; go_big_quiet_step (fail); refine wpQuiet_nil ?_)
    refine plan_one (o := ⟨_, _, _, _, _, _⟩) (by rfl) (fun K hK => ?_)
    go_wp2_with (refine wpList_s2b rfl _ rfl Tryd.underlying9 Tryd.underlying22 Tryd.underlying5 (HB ++ PB ++ TB) rfl (by rw [HSZ.out]; omega) ?_; intro c4 w4 ho4 hb4)
    rw [HSZ.out] at ho4
    have hb14 := hb13.trans (hb4.mono hb13.size)
    have hbw4 := hb1.trans (hb14.mono hb1.size)
    refine hK _ _ ⟨⟨w4, hb14⟩, rfl⟩ ?_
    clear hK
    refine plan_one (o := ⟨_, _, _, _, _, _⟩) (by rfl) (fun K hK => ?_)
    go_wp2_with (at_builtin; refine wpList_app rfl _ _ rfl eb (ho4.mono (b' := w.heap.size) hbw3.size) rfl (HV.out.below hbw4) rfl (b8_one _) (by omega) (by unfold maxLen; omega) hbw4.size ?_; intro A5 c5 w5 ho5 hg5 hq5)
    have hbw5 := hbw4.grown hg5 hbw4.size (fun g hg => Nat.le_trans hbw3.size (ho4.lt g hg).1)
    have hb15 := hb14.grown hg5 (by have := hb14.size; omega) (fun g hg => Nat.le_trans hb13.size (ho4.lt g hg).1)
    refine hK _ _ ⟨⟨w5, hb15⟩, rfl⟩ ?_
    clear hK
    iterate 2 (refine plan_read (o := ⟨_, _, _, _, _, _⟩) (by rfl) (by rfl) ?_; go_big_quiet_step (fail); refine wpQuiet_nil ?_)
    refine plan_fin ?_
    rw [HCAT.out] at ho5
    go_wp2_with fail
    go_ret2
    exact ⟨A5, _, c5, rfl, ho5, hbw5⟩
  · have hbr : bytesR v l b = ([], 1) := if_neg hv
    rw [hbr]
    rw [reason_none hv] at HR
    clear hv hbr
    go_enter Tryd.func9, Tryd.ntmps9
    go_wp2_with (first
      | (refine wpList_box rfl _ _ rfl (rpA v A n c b) rfl ?_; intro w1 hg1 hb1 hz1; have h0 : w1.cell? ⟨w.heap.size, 0, none⟩ = some (.int .i64 v) := cell_of hg1 rfl; clear hg1 hz1))
    refine (HR.out _).mono ?_
    rintro e w2 ⟨rfl, rfl⟩
    go_wp2_with fail
    go_ret2
    exact ⟨none, 0, 0, rfl, Own.nil_ _ _ _ _, hb1⟩

end Go.Proofs.YtogkmlodcdgegaaDoor
