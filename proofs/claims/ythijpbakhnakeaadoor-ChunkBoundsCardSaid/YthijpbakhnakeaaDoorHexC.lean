/-
  The library's formatBits at base 16: the walk.
-/
import Derived.Test.YthijpbakhnakeaaDoorHexB
import Derived.Test.YthijpbakhnakeaaDoorStrs
import Derived.Test.YthijpbakhnakeaaDoorElem
import Derived.Deep.CutRange
import Derived.Deep.CutBlock
namespace Go.Proofs.YthijpbakhnakeaaDoor
open Go.RowKit

section
variable {P : Program} {ops : Array Oper} {rest : List Oper} {o : Oper} {a : Act} {Q : Exit → Act → World → Prop} {w : World}
theorem wpList_index_run (hw : Region.wanted o (yielded ops a.tmps) = true) (ty : TypeId) (x y : Operand) (ho : o.op = .index ty x y) (u i : Value) (hx : a.eval x = u) (hi : a.eval y = i) (v : Value) (hrun : (Instr.index ty u i).run P w = .ok v w)
    (k : wpList P ops Q rest (a.put o.dst v) w) : wpList P ops Q (o :: rest) a w := by
  refine wpList_taken hw fun K hK => ?_
  unfold Oper.wp execOp
  simp only [ho, hx, hi, Sem.run_bind, Sem.run_pure, Result.andThen_ok, hrun]
  exact hK _ _ k
end
theorem at_row (g I : Nat) : at_ (some ⟨g, 0, none⟩) I = ⟨g, I, none⟩ := by
  rw [at_some]
  unfold Addr.add
  split <;> simp_all
/-- A block of one's own, known by its cells. -/
theorem Own.block {w : World} {base g : Nat} {e : TypeId} {n : Nat} {xs : List Value} (hg : w.heap[g]? = some (.cells xs.toArray e (0, 0))) (hb : base ≤ g) (hl : xs.length = n) (hm : n ≤ maxLen) : Own w base e 1 (some ⟨g, 0, none⟩) n n xs := by
  refine ⟨⟨by omega, Nat.le_refl _, hm, (fun h => by cases h), fun j u hu => ?_⟩, fun a ha => ?_⟩
  · rw [at_some]
    have : (⟨g, 0, none⟩ : Addr).add j = ⟨g, j, none⟩ := by unfold Addr.add; split <;> simp_all
    rw [this]
    simp [World.cell?, hg, hu]
  · obtain rfl := Option.some.inj ha
    exact ⟨rfl, hb, _, _, hg, by simp; omega, fun j _ _ => by simp⟩
def zer65 : List Value := List.replicate 65 (.int .u8 0)
theorem zero_65 : (Tryd.prog.info? 61).map (·.zero) = some (some (.agg zer65.toArray)) := by kernel_rfl
theorem Pow2_16 (w : World) : Calls Tryd.prog 32 #[.int .i64 16] w fun e w' => e = .returned (.bool true) ∧ w = w' := by
  have e1 : bits .and .i64 16 15 = 0 := by decide +kernel
  go_enter Tryd.func32, Tryd.ntmps32
  go_wp2_with fail
  go_ret
  exact ⟨rfl, rfl⟩
theorem u64_and15 (u : Nat) (h : u < 4294967296) : bits .and .u64 (u : Int) 15 = ((u % 16 : Nat) : Int) := by
  have h1 := u64_and_nat u 15 (by omega) (by omega)
  rw [show (15 : Nat) = 2 ^ 4 - 1 from rfl, Nat.and_two_pow_sub_one_eq_mod] at h1
  exact h1
theorem set_row (x : UInt8) (ws : List UInt8) : ∀ I : Nat, (List.replicate (I + 1) (0 : UInt8) ++ ws).set I x = List.replicate I 0 ++ x :: ws
  | 0 => rfl
  | I + 1 => by
    have := set_row x ws I
    rw [List.replicate_succ, List.cons_append, List.set_cons_succ, this, List.replicate_succ (n := I)]
    rfl
theorem idx65 (g I : Nat) (h : I < 65) (W : World) : (Instr.indexAt 61 (.pointer (some ⟨g, 0, none⟩)) (.int .i64 (I : Int))).run Tryd.prog W = .ok (.pointer (some ⟨g, I, none⟩)) W := by
  have hl : Tryd.prog.arrayLen 61 = 65 := by kernel_rfl
  have hz : (sizeOf (Tryd.prog.elem 61)).run Tryd.prog W = .ok 1 W := sizeOf_run (by kernel_rfl) W
  rw [run_indexAt_array (P := Tryd.prog) W 61 ⟨g, 0, none⟩ .i64 (I : Int) (by kernel_rfl), if_pos ⟨by omega, by rw [hl]; omega⟩, hz, Result.andThen_ok]
  have e : (⟨g, 0, none⟩ : Addr).add ((I : Int).toNat * 1) = ⟨g, I, none⟩ := by
    rw [Int.toNat_natCast, Nat.mul_one]
    unfold Addr.add
    split <;> simp_all
  rw [e]
theorem slice65 (g I : Nat) (h : I < 65) (W : World) : (Instr.sliceAt 61 (.pointer (some ⟨g, 0, none⟩)) (some (.int .i64 (I : Int))) none none).run Tryd.prog W = .ok (.slice (some ⟨g, I, none⟩) (65 - I) (65 - I)) W := by
  have hl : Tryd.prog.arrayLen 61 = 65 := by kernel_rfl
  have hz : (sizeOf (Tryd.prog.elem 61)).run Tryd.prog W = .ok 1 W := sizeOf_run (by kernel_rfl) W
  rw [run_sliceAt_array_l (P := Tryd.prog) W 61 ⟨g, 0, none⟩ (by kernel_rfl) .i64 (I : Int) (by omega) (by rw [hl]; omega), hz, Result.andThen_ok, hl]
  unfold slicedAt
  have e : (⟨g, 0, none⟩ : Addr).add ((I : Int).toNat * 1) = ⟨g, I, none⟩ := by
    rw [Int.toNat_natCast, Nat.mul_one]
    unfold Addr.add
    split <;> simp_all
  rw [if_neg (by omega), e, Int.toNat_natCast]
theorem tail65 {w : World} {g I : Nat} {ws : List UInt8} (h : Rd w 1 (some ⟨g, 0, none⟩) 65 65 ((List.replicate I (0 : UInt8) ++ ws).map b8)) : Rd w 1 (some ⟨g, I, none⟩) (65 - I) (65 - I) (ws.map b8) := by
  have hl := h.len
  simp only [List.length_map, List.length_append, List.length_replicate] at hl
  refine ⟨by rw [List.length_map]; omega, Nat.le_refl _, by unfold maxLen; omega, (fun h => by cases h), fun j u hu => ?_⟩
  have h1 := h.cell (I + j) u (by
    rw [List.map_append, List.getElem?_append_right (by simp)]
    simpa using hu)
  rw [at_row] at h1
  rw [at_some]
  have e : (⟨g, I, none⟩ : Addr).add j = ⟨g, I + j, none⟩ := by unfold Addr.add; split <;> simp_all
  rw [e]
  exact h1
def digS : ByteArray := ⟨#[48, 49, 50, 51, 52, 53, 54, 55, 56, 57, 97, 98, 99, 100, 101, 102, 103, 104, 105, 106, 107, 108, 109, 110, 111, 112, 113, 114, 115, 116, 117, 118, 119, 120, 121, 122]⟩

theorem dig_size : digS.size = 36 := rfl
theorem dig_fin : ∀ d : Fin 16, digS[d.1]? = some (hexD d.1) := by decide +kernel
theorem dig_run (d : Nat) (hd : d < 16) (W : World) : (Instr.index 9 (.string digS) (.int .u64 (d : Int))).run Tryd.prog W = .ok (.int .u8 ((hexD d).toNat : Int)) W := by
  have h1 := dig_fin ⟨d, hd⟩
  have hs : d < digS.size := by rw [dig_size]; omega
  rw [getElem?_pos digS d hs] at h1
  have h2 := Option.some.inj h1
  rw [run_index_string (P := Tryd.prog) W 9 digS .u64 (d : Int) Tryd.underlying9, dif_pos ⟨by omega, by omega⟩]
  have e : (d : Int).toNat = d := Int.toNat_natCast d
  simp only [e, h2]

set_option maxRecDepth 20000 in
set_option maxHeartbeats 2000000 in
theorem formatBits_16 {w : World} {B : Nat} {A : Option Addr} {n c : Nat} {l : List UInt8} (h : Own w B 5 1 A n c (l.map b8)) (hB : B ≤ w.heap.size) (hn : n ≤ 1073741824) (v : Nat) (hv0 : 0 < v) (hv : v < 4294967296) (ht : HTab w) :
    Calls Tryd.prog 28 #[.slice A n c, .int .u64 v, .int .i64 16, .bool false, .bool true] w fun e w' => ∃ A' c', e = .returned (.tuple #[.slice A' (n + (hex0 v).length) c', .string ⟨#[]⟩]) ∧ Own w' B 5 1 A' (n + (hex0 v).length) c' ((l ++ hex0 v).map b8) ∧ Below B w w' := by
  have HZ := Lib.hid (fun W (hb : Below w.heap.size w W) => Zeros_16 W (ht.below hb))
  have hv1 : (v : Int) < 4294967296 := by omega
  have e1 : bits .and .i64 16 15 = 0 := by decide +kernel
  go_enter Tryd.func28, Tryd.ntmps28
  go_wp2_with (first
    | (refine wpList_alloc_zero rfl _ rfl zer65.toArray zero_65 ?_; intro w1 hg1 hb1 hz1; clear hz1))
  refine (Pow2_16 _).mono ?_
  rintro e w2 ⟨rfl, rfl⟩
  go_wp2_with fail
  refine (HZ.out _ hb1).mono ?_
  rintro e w2 ⟨rfl, rfl⟩
  have hO : Own w1 w.heap.size 61 1 (some ⟨w.heap.size, 0, none⟩) 65 65 ((List.replicate 65 (0 : UInt8) ++ []).map b8) := Own.block hg1 (Nat.le_refl _) (by simp) (by decide)
  have hK : v < 16 ^ 8 := by omega
  clear hg1
  go_wp2_with fail
  go_loopw [1, 13] (fun u i wr => ∃ (U K : Nat) (ws : List UInt8), u = .int .u64 U ∧ 0 < U ∧ U < 4294967296 ∧ i = .int .i64 ((65 - ws.length : Nat) : Int) ∧ Hid (K + ws.length = 8) ∧ Hid (U < 16 ^ K) ∧ Hid (hexAt v U ws) ∧ Own wr w.heap.size 61 1 (some ⟨w.heap.size, 0, none⟩) 65 65 ((List.replicate (65 - ws.length) (0 : UInt8) ++ ws).map b8) ∧ Below w.heap.size w wr) (fun u _ _ => (intOf u).toNat)
  case atStart => exact ⟨v, 8, [], rfl, hv0, hv, rfl, rfl, hK, hexAt_start v, hO, hb1⟩
  case round =>
    obtain ⟨U, K, ws, rfl, hU0, hU, rfl, HKW, HK, HH, ho, hb⟩ := hrel
    have hw8 : ws.length ≤ 8 := by have := HKW.out; omega
    by_cases hge : 16 ≤ U
    · have hge' : decide ((16 : Int) ≤ U) = true := decide_eq_true (by omega)
      have hand := u64_and15 U hU
      obtain ⟨J, hJ⟩ : ∃ J : Nat, 65 - ws.length = J := ⟨_, rfl⟩
      obtain ⟨I, hI⟩ : ∃ I : Nat, J - 1 = I := ⟨_, rfl⟩
      obtain ⟨d, hd⟩ : ∃ d : Nat, U % 16 = d := ⟨_, rfl⟩
      rw [hJ] at ho ⊢
      rw [hd] at hand
      have hd16 : d < 16 := by omega
      have hI65 : I < 65 := by omega
      have hI1 : (J : Int) - 1 = I := by omega
      have hIw : IntKind.i64.wrap (I : Int) = I := IntWalk.i64_in _ (by omega)
      have hdr := dig_run d hd16
      have HJ := Lib.hid hJ
      have HI := Lib.hid hI
      have HD := Lib.hid hd
      clear hJ hI hd
      have hfr := ho.free (k := I) hI65
      obtain ⟨u0, hcp⟩ : ∃ u, wr.cell? (at_ (some ⟨w.heap.size, 0, none⟩) I) = some u := by
        have h1 := ho.rd.len
        exact ⟨_, ho.rd.cell I _ (List.getElem?_eq_getElem (by omega))⟩
      rw [at_row] at hfr hcp
      have hidx : ∀ W, (Instr.indexAt 61 (.pointer (some ⟨w.heap.size, 0, none⟩)) (.int .i64 (I : Int))).run Tryd.prog W = .ok (.pointer (some ⟨w.heap.size, I, none⟩)) W := fun W => idx65 _ I hI65 W
      clear hge
      go_upto_region 13 with fail
      have HDR := Lib.hid hdr
      clear hI1 hIw hdr e1 hv1 hO
      go_upto_region 14 with (refine wpList_index_run (by rfl) _ _ _ (by rfl) (.string digS) (.int .u64 (d : Int)) (by rfl) (by rfl) _ (HDR.out _) ?_)
      have hJ1 : J = I + 1 := by have := HI.out; have := HJ.out; omega
      have ho2 : Own (wr.setCell ⟨w.heap.size, I, none⟩ (.int .u8 ((hexD d).toNat : Int))) w.heap.size 61 1 (some ⟨w.heap.size, 0, none⟩) 65 65 ((List.replicate (65 - (hexD d :: ws).length) (0 : UInt8) ++ (hexD d :: ws)).map b8) := by
        have h1 := ho.store hI65 (.int .u8 ((hexD d).toNat : Int))
        rw [at_row, hJ1, show (Value.int .u8 ((hexD d).toNat : Int)) = b8 (hexD d) from rfl, ← List.map_set, set_row] at h1
        have e : 65 - (hexD d :: ws).length = I := by
          have := HJ.out
          rw [List.length_cons]
          omega
        rw [e]
        exact h1
      have hb2 : Below w.heap.size w (wr.setCell ⟨w.heap.size, I, none⟩ (.int .u8 ((hexD d).toNat : Int))) := hb.setCell (Nat.le_refl _) _
      clear hJ1 hfr hcp ho hb hidx hand
      go_wp2_with fail
      go_roundw
      case rel =>
        have hU16 : 16 ≤ U := by have := of_decide_eq_true hge'; omega
        have hKp : 1 ≤ K := by
          rcases Nat.eq_zero_or_pos K with h0 | h0
          · have := HK.out
            rw [h0] at this
            simp at this
            omega
          · exact h0
        obtain ⟨K', rfl⟩ : ∃ K', K = K' + 1 := ⟨K - 1, by omega⟩
        have hU2 : U / 16 < 16 ^ K' := by
          have := HK.out
          rw [Nat.pow_succ] at this
          exact Nat.div_lt_of_lt_mul (by omega)
        have hK2 : K' + (hexD d :: ws).length = 8 := by
          have := HKW.out
          rw [List.length_cons]
          omega
        have hI2 : I = 65 - (hexD d :: ws).length := by
          have := HJ.out
          have := HI.out
          rw [List.length_cons]
          omega
        have hx2 := hexAt_step HH.out hU0
        rw [HD.out] at hx2
        exact ⟨U / 16, K', hexD d :: ws, by go_num, by omega, by omega, by rw [← hI2], hK2, hU2, hx2, ho2, hb2⟩
      case measure => simp [intOf]; omega
    · have hlt : U < 16 := by omega
      have hge' : decide ((16 : Int) ≤ U) = false := decide_eq_false (by omega)
      obtain ⟨J, hJ⟩ : ∃ J : Nat, 65 - ws.length = J := ⟨_, rfl⟩
      obtain ⟨I, hI⟩ : ∃ I : Nat, J - 1 = I := ⟨_, rfl⟩
      rw [hJ] at ho ⊢
      have hI65 : I < 65 := by omega
      have hI1 : (J : Int) - 1 = I := by omega
      have hIw : IntKind.i64.wrap (I : Int) = I := IntWalk.i64_in _ (by omega)
      have HDR := Lib.hid (dig_run U hlt)
      have HJ := Lib.hid hJ
      have HI := Lib.hid hI
      have HIW := Lib.hid hIw
      have hend : hex0 v = hexD U :: ws := by
        have := HH.out
        unfold hexAt at this
        rw [this, hex0_one hU0 hlt]
        rfl
      have HEND := Lib.hid hend
      clear hend hJ hI
      have hfr := ho.free (k := I) hI65
      obtain ⟨u0, hcp⟩ : ∃ u, wr.cell? (at_ (some ⟨w.heap.size, 0, none⟩) I) = some u := by
        have h1 := ho.rd.len
        exact ⟨_, ho.rd.cell I _ (List.getElem?_eq_getElem (by omega))⟩
      rw [at_row] at hfr hcp
      have hidx := fun W => idx65 w.heap.size I hI65 W
      have hsl := fun W => slice65 w.heap.size I hI65 W
      clear hge
      go_upto_region 16 with fail
      clear hI1 hIw e1 hv1 hO
      go_upto_region 29 with (refine wpList_index_run (by rfl) _ _ _ (by rfl) (.string digS) (.int .u64 (U : Int)) (by rfl) (by rfl) _ (HDR.out _) ?_)
      have hJ1 : J = I + 1 := by have := HI.out; have := HJ.out; omega
      have eI : 65 - I = (hexD U :: ws).length := by
        have := HJ.out
        rw [List.length_cons]
        omega
      have ho2 : Own (wr.setCell ⟨w.heap.size, I, none⟩ (.int .u8 ((hexD U).toNat : Int))) w.heap.size 61 1 (some ⟨w.heap.size, 0, none⟩) 65 65 ((List.replicate I (0 : UInt8) ++ (hexD U :: ws)).map b8) := by
        have h1 := ho.store hI65 (.int .u8 ((hexD U).toNat : Int))
        rw [at_row, hJ1, show (Value.int .u8 ((hexD U).toNat : Int)) = b8 (hexD U) from rfl, ← List.map_set, set_row] at h1
        exact h1
      have hb2 : Below w.heap.size w (wr.setCell ⟨w.heap.size, I, none⟩ (.int .u8 ((hexD U).toNat : Int))) := hb.setCell (Nat.le_refl _) _
      obtain ⟨w5, hw5⟩ : ∃ w5, wr.setCell ⟨w.heap.size, I, none⟩ (.int .u8 ((hexD U).toNat : Int)) = w5 := ⟨_, rfl⟩
      rw [hw5] at ho2 hb2 ⊢
      have htl := tail65 ho2.rd
      have hA := h.below hb2
      have hB5 := hb2.size
      have EI := Lib.hid eI
      obtain ⟨M, hM⟩ : ∃ M, 65 - I = M := ⟨_, rfl⟩
      rw [hM] at htl hsl
      have HM := Lib.hid hM
      have hM65 : M ≤ 65 := by omega
      clear hJ1 eI ho2 ho hb hfr hcp hidx hw5 hM hI65
      go_wp2_with (at_builtin; refine wpList_app rfl _ _ rfl eb hA rfl htl rfl (b8_one _) (by omega) (by unfold maxLen; omega) (by omega) ?_; intro A9 c9 w9 ho9 hg9 hq9)
      go_ret2
      have hbB : Below B w w9 := (hb2.mono hB).grown hg9 (by omega) (fun g hg => (hA.lt g hg).1)
      rw [← List.map_append] at ho9
      have e : (hex0 v).length = M := by rw [HEND.out, ← EI.out, HM.out]
      rw [e, HEND.out]
      exact ⟨A9, c9, rfl, ho9, hbB⟩

end Go.Proofs.YthijpbakhnakeaaDoor
