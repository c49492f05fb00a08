/-
  The law FieldWords.
-/
import Derived.Test.YtpidakfpoihdkaaDoorFiG
import Derived.Test.YtpidakfpoihdkaaDoorFiI
import Derived.Test.YtpidakfpoihdkaaDoorShap
namespace Go.Proofs.YtpidakfpoihdkaaDoor
open Go.RowKit

theorem mx_of {w : World} (h : w.ShapedOpen Tryd.checked.prog) : Mx w :=
  Go.Proofs.cell_of_shapedOpen_int (zero := #[.int .i64 0]) (t := 3) h (of_decide_eq_true (by kernel_rfl)) (by kernel_rfl) rfl (by kernel_rfl) (by kernel_rfl) Tryd.underlying3
theorem Own.storeOther {w : World} {base base2 : Nat} {e e2 : TypeId} {n c m d : Nat} {A B : Option Addr} {xs ys : List Value} (h : Own w base e 1 A n c xs) {k : Nat} (hk : k < c) (u : Value)
    (h2 : Own w base2 e2 1 B m d ys) (hA : ∀ g, blk A = some g → g < base2) : Own (w.setCell (at_ A k) u) base2 e2 1 B m d ys := by
  cases A with
  | none => have := h.rd.nil rfl; omega
  | some a =>
    refine h2.keep fun g _ hge _ => Below.heap_setCell w _ u g ?_
    rw [at_some, block_of_add]
    have := hA a.block rfl
    omega
def quest : List UInt8 := [63]
/-- The list, its first k words overwritten. -/
def struck (l : List (List UInt8)) (k : Nat) : List (List UInt8) := List.replicate k quest ++ l.drop k
theorem struck_0 (l : List (List UInt8)) : struck l 0 = l := by simp [struck]
theorem struck_at (l : List (List UInt8)) {k : Nat} (hk : k < l.length) : (struck l k)[k]? = l[k]? := by
  unfold struck
  rw [List.getElem?_append_right (by simp), List.length_replicate, Nat.sub_self, List.getElem?_drop]
  rfl
theorem struck_set (l : List (List UInt8)) {k : Nat} (hk : k < l.length) : (struck l k).set k quest = struck l (k + 1) := by
  unfold struck
  rw [List.set_append_right _ _ (by simp), List.length_replicate, Nat.sub_self, List.drop_eq_getElem_cons hk, List.set_cons_zero, List.replicate_succ', List.append_assoc]
  rfl

set_option maxRecDepth 20000 in
set_option maxHeartbeats 8000000 in
theorem fieldWords_walk {w : World} (hm : Mx w) (s : ByteArray) (_ : s.size ≤ maxLen) :
    Calls Tryd.prog 4 #[.string s] w fun e w' => e = .returned (.bool true) ∧ Below w.heap.size w w' := by
  obtain ⟨l, rfl⟩ : ∃ l : List UInt8, s = ⟨l.toArray⟩ := ⟨s.data.toList, by cases s; simp⟩
  have HM := Lib.hid (fun W (hb : Below w.heap.size w W) => hm.below hb)
  have HB := Lib.hid (begun_any w hm)
  have hz := size_mk l
  clear hm
  by_cases hn : (2048 : Int) < l.length
  · have hn' : decide ((2048 : Int) < l.length) = true := decide_eq_true hn
    clear hn
    go_enter Tryd.func4, Tryd.ntmps4
    go_wp2_with fail
    refine HB.out.mono ?_
    rintro e w1 ⟨rfl, hb1⟩
    go_wp2_with fail
    go_ret
    exact ⟨rfl, hb1⟩
  have hn' : decide ((2048 : Int) < l.length) = false := decide_eq_false hn
  have hn2 : l.length ≤ 2048 := by omega
  have hL : (wordsF (split1 44 l)).length ≤ 2049 := by
    have h1 := wordsF_len (split1 44 l)
    have h2 := (split1_le 44 l).1
    omega
  have HWA := Lib.hid (fun W h => Words_any l (by omega) W h)
  have HRA := Lib.hid (fun W => RWords_any l (by omega) W)
  obtain ⟨L, hR⟩ : ∃ L, wordsF (split1 44 l) = L := ⟨_, rfl⟩
  rw [hR] at HWA HRA hL
  clear hn hR
  go_enter Tryd.func4, Tryd.ntmps4
  go_wp2_with fail
  refine HB.out.mono ?_
  rintro e w1 ⟨rfl, hb1⟩
  go_wp2_with fail
  go_loopw [3] (fun i wr => ∃ k : Nat, k ≤ 2 ∧ i = .int .i64 k ∧ Below w.heap.size w wr) (fun i _ => 2 - (intOf i).toNat)
  case atStart => exact ⟨0, by omega, rfl, hb1⟩
  case round =>
    obtain ⟨k, hk, rfl, hb⟩ := hrel
    by_cases hk2 : k < 2
    · have hk2' : (k : Int) < 2 := by omega
      clear hk2 hk hb1
      go_wp2_with fail
      refine (HWA.out _ (HM.out _ hb)).mono ?_
      rintro e w2 ⟨A, n, c, rfl, hoA, hb2⟩
      have hb2' := hb.trans (hb2.mono hb.size)
      have hltA : ∀ g, blk A = some g → g < w2.heap.size := fun g hg => (hoA.lt g hg).2
      go_wp2_with fail
      refine (HRA.out _).mono ?_
      rintro e w3 ⟨B, m, d, rfl, hoB, hb3⟩
      have hb3' := hb2'.trans (hb3.mono hb2'.size)
      obtain rfl : L.length = n := by simpa using hoA.rd.len
      obtain rfl : L.length = m := by simpa using hoB.rd.len
      have hoA3 := (hoA.below hb3).mono hb.size
      have hlt2 : w2.heap.size ≤ w3.heap.size := hb3.size
      obtain ⟨N, hN⟩ : ∃ N, L.length = N := ⟨_, rfl⟩
      rw [hN] at hoA3 hoB hL ⊢
      have HN := Lib.hid hN
      clear hoA hb3 hb2 hN
      go_wp2_with fail
      go_loopw [6] (fun j wr => ∃ q : Nat, q ≤ N ∧ j = .int .i64 q ∧ Own wr w.heap.size 9 1 A N c ((struck L q).map strV) ∧ Own wr w2.heap.size 9 1 B N d (L.map strV) ∧ Below w.heap.size w wr) (fun j _ => N - (intOf j).toNat)
      case atStart => exact ⟨0, by omega, rfl, by rw [struck_0]; exact hoA3, hoB, hb3'⟩
      case round =>
        obtain ⟨q, hq, rfl, ho, ho2, hbq⟩ := hrel
        clear hoA3 hoB hb3'
        by_cases hqn : q < N
        · have hqL : q < L.length := by rw [HN.out]; exact hqn
          have hx : L[q]? = some (L[q]'hqL) := List.getElem?_eq_getElem _
          generalize L[q]'hqL = x at hx
          have hd : Below wr.heap.size wr wr.drew := (Below.refl _ _).drew
          have hoD := ho.below hd
          have ho2D := ho2.below hd
          have hbD := hbq.drew
          have hidxA := run_index_rd (P := Tryd.prog) (A := A) (n := N) (c := c) es ho.rd.nil ho.rd.le q hqn
          have hidxB := run_index_rd (P := Tryd.prog) (A := B) (n := N) (c := d) es ho2.rd.nil ho2.rd.le q hqn
          rw [Nat.mul_one] at hidxA hidxB
          have hcA := hoD.rd.cell q (strV x) (by rw [List.getElem?_map, struck_at L hqL, hx]; rfl)
          have hcB := ho2D.rd.cell q (strV x) (by rw [List.getElem?_map, hx]; rfl)
          have hcA0 := ho.rd.cell q (strV x) (by rw [List.getElem?_map, struck_at L hqL, hx]; rfl)
          have hcB0 := ho2.rd.cell q (strV x) (by rw [List.getElem?_map, hx]; rfl)
          have hle := ho.rd.le
          have hfr := hoD.free (k := q) (by omega)
          have hst := hoD.store (k := q) (by omega) (strV quest)
          rw [← List.map_set, struck_set L hqL] at hst
          have hst2 := hoD.storeOther (k := q) (by omega) (strV quest) ho2D hltA
          have hbs := below_store hbD hoD (k := q) (by omega) (strV quest)
          have hq' : (q : Int) < N := by omega
          have HST := Lib.hid hst
          have HST2 := Lib.hid hst2
          have HBS := Lib.hid hbs
          unfold strV at hcA hcB hcA0 hcB0
          clear hx hst hst2 hbs hqn hd hoD ho2D hbD
          go_wp2_with fail
          go_region
          all_goals
            go_wp2_with fail
            go_roundw
            case rel => exact ⟨q + 1, by omega, by go_num, HST.out, HST2.out, HBS.out⟩
            case measure => simp [intOf]; omega
        · obtain rfl : q = N := by omega
          clear hqn
          go_wp2_with fail
          go_roundw
          case rel => exact ⟨k + 1, by omega, by go_num, hbq⟩
          case measure => simp [intOf]; omega
    · obtain rfl : k = 2 := by omega
      clear hk2
      go_wp2_with fail
      go_ret
      exact ⟨rfl, hb⟩

end Go.Proofs.YtpidakfpoihdkaaDoor
