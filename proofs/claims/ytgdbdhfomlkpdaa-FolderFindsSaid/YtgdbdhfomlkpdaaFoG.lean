/-
  Package folder: Bytes.
-/
import Derived.Test.YtgdbdhfomlkpdaaFoF
import Derived.Test.YtgdbdhfomlkpdaaMixD
namespace Go.Proofs.Ytgdbdhfomlkpdaa
open Go.RowKit

theorem text_small (l s : List UInt8) (h : s.length ≤ 65536) : textR l s = (l ++ countB s.length ++ s, 0) := if_neg (by omega)

set_option maxRecDepth 20000 in
set_option maxHeartbeats 8000000 in
theorem Bytes_any {w : World} {A : Option Addr} {n c : Nat} {l : List It} (h : Its w A n c l) :
    Calls Try.prog 11 #[.slice A n c] w fun e w' => ∃ A n c, e = .returned (.tuple #[.slice A n c, .int .i64 (foR l).2]) ∧ Own w' w.heap.size 5 1 A n c ((foR l).1.map b8) ∧ Below w.heap.size w w' := by
  have hl := h.len
  have HM := Lib.hid (May_any h)
  by_cases hm : mayL l = false
  · have HR := Lib.hid (foR_no hm)
    rw [hm] at HM
    clear hm hl
    go_enter Try.func11, Try.ntmps11
    go_wp2_with fail
    refine HM.out.mono ?_
    rintro e w1 ⟨rfl, hb1⟩
    go_wp2_with fail
    go_ret2
    rw [HR.out]
    exact ⟨_, _, _, rfl, Own.nil_ _ _ _ _, hb1⟩
  have hm' : mayL l = true := by simpa using hm
  rw [hm'] at HM
  obtain ⟨hl64, hall⟩ := mayL_inv hm'
  have HALL := Lib.hid hall
  have HLEN := Lib.hid (foT_len hm' h.ok)
  have HMAY := Lib.hid hm'
  have hn64 : n ≤ 64 := by omega
  have HL := Lib.hid hl
  clear hm hm' hall hl64 hl
  go_enter Try.func11, Try.ntmps11
  go_wp2_with fail
  refine HM.out.mono ?_
  rintro e w1 ⟨rfl, hb1⟩
  have h1 := h.below hb1
  have hcv := fun (W : World) (C : Array Value) (n c : Nat) => Lib.run_convert_bytes_const (P := Try.prog) W 25 5 C n c Try.underlying25 Try.underlying5
  have hlit := Own.new (base := w1.heap.size) (e := 5) (size := 1) w1 #[.int .u8 68, .int .u8 49] (2, 3) 2 2 (([68, 49] : List UInt8).map b8) (Nat.le_refl _) (Nat.le_refl _) (by decide) (by decide) (by decide) (by simp [b8]) (fun j _ h => by omega)
  go_wp2_with fail
  refine (Count_any _ 2 2 [68, 49] (n : Int) _ hlit.rd (by omega) (by omega) (by omega)).mono ?_
  rintro e w2 ⟨A2, n2, c2, rfl, ho2, hbl2⟩
  have hb2 : Below w.heap.size w w2 := (hb1.alloc hb1.size _).trans (hbl2.mono (Nat.le_trans hb1.size (by simp)))
  have e2 : [68, 49] ++ countB (n : Int).toNat = foT l 0 := by rw [foT_zero, HL.out, Int.toNat_natCast]
  rw [e2] at ho2
  have ho2' := ho2.mono (b' := w.heap.size) (Nat.le_trans hb1.size (by simp))
  have h2 := h.below hb2
  clear hlit hcv h1 hb1 hbl2 ho2 e2 HM
  go_wp2_with fail
  go_loopw [4, 18] (fun v i wr => ∃ (k n' : Nat) (A' : Option Addr) (c' : Nat), k ≤ n ∧ i = .int .i64 k ∧ v = .slice A' n' c' ∧ Own wr w.heap.size 5 1 A' n' c' ((foT l k).map b8) ∧ Below w.heap.size w wr) (fun _ i _ => n - (intOf i).toNat)
  case atStart => exact ⟨0, _, _, _, by omega, rfl, rfl, ho2', hb2⟩
  case round =>
    obtain ⟨k, n', A', c', hk, rfl, rfl, ho, hb⟩ := hrel
    have hB := hb.size
    have hn' := HLEN.out k (by rw [HL.out]; exact hk)
    rw [ho.lenb] at hn'
    by_cases hlt : k < n
    · have hr := h.below hb
      obtain ⟨⟨nm, kd, id, sz⟩, hx, hok, hidx⟩ := hr.at (k : Int) k rfl hlt
      have hM := okAt_inv hx.out (HALL.out k (by rw [HL.out]; exact hlt))
      have hparts := foT_parts hx.out
      have hld := hr.load hx.out
      have hnm : (nm.size : Int) ≤ 64 := by have := hM.name.2.1; dsimp only at this; omega
      have hkd : 1 ≤ kd ∧ kd ≤ 2 := by rcases hM.kind with h | h <;> (dsimp only at h; omega)
      have hsz0 : 0 ≤ sz := hM.size
      have hsz1 : sz ≤ 9223372036854775807 := hok.s1
      have hkb := kind_byte hM.kind
      dsimp only at hparts hkb
      have HP := Lib.hid hparts
      have HKB := Lib.hid hkb
      obtain ⟨hk1, hk2⟩ := hkd
      clear hM hparts hkb
      go_wp2_with (first
        | (refine wpList_load_run (by rfl) _ _ rfl (at_ A (k * 35)) rfl _ hld ?_)
        | (refine wpList_alloc_zero rfl _ rfl (itA itZ) zero_it ?_; intro w3 hg3 hb3 hz3)
        | (refine wpList_store_all rfl _ _ _ rfl wr.heap.size rfl _ _ _ (by rfl) hg3 (size_it hok) (itA_same itZ_ok hok) itA_one ?_; intro w4 hg4 hgr4 hz4; have hB4 : ItB w4 wr.heap.size _ := ⟨hok, hg4⟩; have hbr4 : Below wr.heap.size wr w4 := hb3.grown hgr4 hb3.size (fun g hg => by injection hg with hg; omega); have ho4 := ho.below hbr4; have p2 := hB4.kind; clear hz3 hz4 hg3 hgr4)
        | (at_builtin; refine wpList_app rfl _ _ rfl eb (ho4.alloc _) rfl (Rd.lit _ [_] _ 1 rfl (by decide)) rfl (by simp [Value.oneCell']) (by omega) (by unfold maxLen; omega) (by have := hbr4.size; simp; omega) ?_; intro A5 c5 w5 ho5 hg5 hq5; have hB5 := hB4.app _ hg5 (fun q hq => (ho.lt q hq).2); have p1 := hB5.name)
        | (refine wpList_s2b rfl _ rfl Try.underlying9 Try.underlying25 Try.underlying5 nm rfl (by omega) ?_; intro c6 w6 ho6 hbl6))
      clear hld p1 p2 hq5
      have hlt5 : wr.heap.size < w5.heap.size := hB5.lt
      have hb4 := hb.trans (hbr4.mono hB)
      have hb5 : Below w.heap.size w w5 := (hb4.alloc hb4.size _).grown hg5 (by have := hb4.size; simp; omega) (fun q hq => (ho.lt q hq).1)
      have e5 : (foT l k).map b8 ++ [Value.int .u8 kd] = (foT l k ++ [UInt8.ofNat kd.toNat]).map b8 := by rw [List.map_append, List.map_cons, List.map_nil, HKB.out]
      rw [e5] at ho5
      have ho56 := ho5.below hbl6
      have hB6 := hB5.below hbl6
      have hb6 := hb5.trans (hbl6.mono hb5.size)
      have hszn : nm.data.toList.length = nm.size := by simp
      have HSN := Lib.hid hszn
      clear hszn hb4 hb5 hbr4 ho5 hg5 hbl6 e5 ho4 hB5 hB4 hb3 hg4
      refine (Text_any A5 (n' + 1) c5 _ (some ⟨w5.heap.size, 0, none⟩) nm.size c6 _ _ ho56.rd ho6.rd (by omega) (by omega)).mono ?_
      rintro e w7 ⟨A7, n7, c7, rfl, ho7, hbl7⟩
      rw [text_small _ _ (by rw [HSN.out]; omega), HSN.out] at ho7 ⊢
      dsimp only at ho7 ⊢
      have hB7 := hB6.below hbl7
      have hb7 := hb6.trans (hbl7.mono hb6.size)
      have hlt7 : wr.heap.size < w6.heap.size := hB6.lt
      have hn7 := ho7.lenb
      have hn7' : n7 ≤ 100000 := by
        rw [← hn7]
        have := HLEN.out k (by rw [HL.out]; exact hk)
        have := count_le nm.size (by omega)
        simp only [List.length_append, List.length_cons, List.length_nil, HSN.out]
        omega
      have HN7 := Lib.hid hn7
      have hs67 := hbl7.size
      clear hn7 ho56 ho6 hB6 hb6 hbl7
      go_wp2_with fail
      have hid := hB7.id
      have h34 := fun b : Keep1 w7 wr.heap.size => (hB7.keep b.same).size
      have hws : IntKind.u64.wrap sz = sz := IntWalk.u64_in _ (by omega)
      refine wp_region_plan (MPlan.reads [0, 1, 2, 4, 5, 6] (.one 3 (.one 7 (.read 8 .fin)))) (fun x => ∃ b : Keep1 w7 wr.heap.size, x = b.at') (by kernel_rfl) (by kernel_rfl) (by kernel_rfl) (fun _ _ _ _ _ h => h) ⟨⟨w7.drew, rfl⟩, rfl⟩ ?_
      iterate 6 (refine plan_read (o := ⟨_, _, _, _, _, _⟩) (by rfl) (by rfl) ?_; go_big_quiet_step (fail); refine wpQuiet_nil ?_)
      refine plan_one (o := ⟨_, _, _, _, _, _⟩) (by rfl) (fun K hK => ?_)
      go_wp2_with (at_builtin; refine wpList_app rfl _ _ rfl eb ho7.drew rfl hid.drew rfl (b8_one _) (by omega) (by unfold maxLen; omega) hs67 ?_; intro A8 c8 w8 ho8 hg8 hq8)
      have hk8 : w8.heap[wr.heap.size]? = w7.heap[wr.heap.size]? := hg8.block _ hB7.lt (fun e => by have := (ho7.lt _ e.symm).1; omega)
      refine hK _ _ ⟨⟨w8, hk8⟩, rfl⟩ ?_
      clear hK
      rw [← List.map_append] at ho8
      have hb8 : Below w.heap.size w w8 := (hb7.drew).grown hg8 hb7.size (fun q hq => by have := (ho7.lt q hq).1; omega)
      refine plan_one (o := ⟨_, _, _, _, _, _⟩) (by rfl) (fun K hK => ?_)
      go_wp2_with fail
      refine (Count_any A8 (n7 + 32) c8 _ sz _ ho8.rd (by omega) hsz0 (by omega)).mono ?_
      rintro e w9 ⟨A9, n9, c9, rfl, ho9, hbl9⟩
      have hk9 : w9.heap[wr.heap.size]? = w7.heap[wr.heap.size]? := (hbl9.block _ (Nat.lt_of_lt_of_le hB7.lt hg8.size)).trans hk8
      go_wp2_with fail
      refine hK _ _ ⟨⟨w9, hk9⟩, rfl⟩ ?_
      clear hK
      refine plan_read (o := ⟨_, _, _, _, _, _⟩) (by rfl) (by rfl) ?_
      go_big_quiet_step (fail)
      refine wpQuiet_nil ?_
      refine plan_fin ?_
      have e9 : ((foT l k ++ [UInt8.ofNat kd.toNat] ++ countB nm.size ++ nm.data.toList) ++ id) ++ countB sz.toNat = foT l (k + 1) := HP.out.symm
      rw [e9] at ho9
      have ho10 := ho9.mono (b' := w.heap.size) hb8.size
      have hb9 := hb8.trans (hbl9.mono hb8.size)
      clear h34 hid ho9 ho8 hg8 hq8 hk8 hk9 hbl9
      go_wp2_with fail
      go_roundw
      case rel => exact ⟨k + 1, n9, A9, c9, by omega, by go_num, rfl, ho10, hb9⟩
      case measure => simp [intOf]; omega
    · have hk' : k = n := by omega
      subst hk'
      have e1 := foT_all l
      rw [HL.out] at e1
      rw [e1] at ho
      have hlen := ho.lenb
      by_cases h4 : (4000 : Int) < n'
      · have HR := Lib.hid (foR_long HMAY.out (by rw [hlen]; omega))
        clear hlen e1 hn'
        go_wp2_with fail
        go_ret2
        rw [HR.out]
        exact ⟨_, _, _, rfl, Own.nil_ _ _ _ _, hb⟩
      · have HR := Lib.hid (foR_yes HMAY.out (by rw [hlen]; omega))
        have h4' : (n' : Int) ≤ 4000 := by omega
        clear hlen e1 hn' h4
        go_wp2_with fail
        go_ret2
        rw [HR.out]
        exact ⟨_, _, _, rfl, ho, hb⟩

end Go.Proofs.Ytgdbdhfomlkpdaa
