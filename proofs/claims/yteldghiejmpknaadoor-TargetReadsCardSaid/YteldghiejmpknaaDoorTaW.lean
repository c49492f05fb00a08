/-
  The law TargetReads.
-/
import Derived.Test.YteldghiejmpknaaDoorTaV
import Derived.Test.YteldghiejmpknaaDoorTaN
namespace Go.Proofs.YteldghiejmpknaaDoor
open Go.RowKit

/-- A row of parameters of the call's own, whatever they say. -/
def RowB (w : World) (base : Nat) (B : Option Addr) (m : Nat) : Prop := m = 0 ∨ ∃ (g o : Nat) (cur : Array Value) (fr : Nat × Nat), B = some ⟨g, o, none⟩ ∧ base ≤ g ∧ w.heap[g]? = some (.cells cur 32 fr) ∧ o + m * 2 ≤ cur.size ∧ ∀ j, o ≤ j → j < o + m * 2 → ¬ (fr.1 ≤ j ∧ j < fr.2)
theorem RowB.of {w : World} {base m d : Nat} {B : Option Addr} {xs : List Value} (h : Own w base 32 2 B m d xs) : RowB w base B m := by
  cases B with
  | none =>
    have h1 := h.rd.nil rfl
    have h2 := h.rd.le
    exact .inl (by omega)
  | some a =>
    obtain ⟨h1, h2, cur, fr, h3, h4, h5⟩ := h.own a rfl
    have hle := h.rd.le
    obtain ⟨g, o, sp⟩ := a
    dsimp only at h1 h2 h3 h4 h5
    subst h1
    refine .inr ⟨g, o, cur, fr, rfl, h2, h3, by omega, fun j a b => h5 j a (by omega)⟩
theorem RowB.keep {w w' : World} {base m : Nat} {B : Option Addr} (h : RowB w base B m) (hk : ∀ q, blk B = some q → q < w.heap.size → (∃ cur fr, w.heap[q]? = some (.cells cur 32 fr)) → w'.heap[q]? = w.heap[q]?) : RowB w' base B m := by
  rcases h with h | ⟨g, o, cur, fr, rfl, h2, h3, h4⟩
  · exact .inl h
  · exact .inr ⟨g, o, cur, fr, rfl, h2, (hk g rfl (Array.getElem?_eq_some_iff.1 h3).1 ⟨cur, fr, h3⟩).trans h3, h4⟩
theorem row_below {w w1 w2 : World} {m : Nat} {B : Option Addr} (h : RowB w1 w.heap.size B m) (hb : Below w.heap.size w w1) (hg : w1.grownBy w2 (blk B)) (hm : 0 < m) : Below w.heap.size w w2 := by
  rcases h with h | ⟨g, o, cur, fr, rfl, h2, _⟩
  · omega
  · exact hb.grown hg hb.size (fun q hq => by obtain rfl : g = q := by simpa [blk] using hq
                                              exact h2)
theorem build_pr0 (W : World) : (Instr.build 32 #[]).run Tryd.prog W = .ok (.agg (prA [] [])) W := by kernel_rfl
theorem idx_row (B : Option Addr) {m d : Nat} (hnil : B = none → d = 0) (hle : m ≤ d) {k : Nat} (hk : k < m) (W : World) : (Instr.indexAt 24 (.slice B m d) (.int .i64 (k : Int))).run Tryd.prog W = .ok (.pointer (some (at_ B (k * 2)))) W :=
  run_index_rd ep hnil hle k hk W
section
variable {ops : Array Oper} {rest : List Oper} {o : Oper} {a : Act} {Q : Exit → Act → World → Prop} {w : World}
theorem wpList_store_pr (hw : Region.wanted o (yielded ops a.tmps) = true) (x y : Operand) (ho : o.op = .store 32 x y) {base m : Nat} {B : Option Addr} (hB : RowB w base B m) {k : Nat} (hk : k < m) (hx : a.eval x = .pointer (some (at_ B (k * 2)))) (u v : List UInt8) (hy : a.eval y = .agg (prA u v))
    (hK : ∀ w', RowB w' base B m → w.grownBy w' (blk B) → w'.heap.size = w.heap.size → wpList Tryd.prog ops Q rest (a.put o.dst undef) w') : wpList Tryd.prog ops Q (o :: rest) a w := by
  rcases hB with h0 | ⟨g, q, cur, fr, rfl, h2, h3, h4, h5⟩
  · omega
  refine wpList_taken hw fun K hK' => ?_
  have hat : at_ (some ⟨g, q, none⟩) (k * 2) = ⟨g, q + k * 2, none⟩ := by
    rw [at_some]
    unfold Addr.add
    split
    · rename_i h; simp [h]
    · rfl
  have h := run_storeCells_fr Tryd.prog g (q + k * 2) 32 fr (prA u v).toList 0 cur w h3 (by simp [prA]; omega) (fun j a b => h5 j (by omega) (by simp [prA] at b; omega)) (pr_one u v)
  have hrun : (storeVar 32 ⟨g, q + k * 2, none⟩ (.agg (prA u v))).run Tryd.prog w = .ok () (w.setRow g (cur.toList.take (q + k * 2 + 0) ++ (prA u v).toList ++ cur.toList.drop (q + k * 2 + 0 + (prA u v).toList.length)).toArray) := by
    simp only [storeVar, Sem.run_bind, sizeOf_run (size_pr u v), Result.andThen_ok, Value.cells, ne_eq, not_true_eq_false, if_false, h]
  rw [hat] at hx
  unfold Oper.wp execOp
  simp only [ho, hx, hy, Instr.storeAt, Instr.sureAddr, Sem.run_bind, Sem.run_pure, Result.andThen_ok, hrun]
  refine hK' _ _ (hK _ (.inr ⟨g, q, _, fr, rfl, h2, setRow_heap w g cur _ 32 fr h3, ?_, h5⟩) ⟨rfl, rfl, rfl, by simp, fun z _ hz => setRow_other w g z _ (fun e => hz (by rw [e]; rfl))⟩ (by simp))
  simp [prA]
  omega
end

set_option maxRecDepth 20000 in
set_option maxHeartbeats 8000000 in
theorem targetReads_walk {w : World} (hm : Mx w) (s : ByteArray) (_ : s.size ≤ maxLen) :
    Calls Tryd.prog 3 #[.string s] w fun e w' => e = .returned (.bool true) ∧ Below w.heap.size w w' := by
  obtain ⟨l, rfl⟩ : ∃ l : List UInt8, s = ⟨l.toArray⟩ := ⟨s.data.toList, by cases s; simp⟩
  have HM := Lib.hid (fun W (hb : Below w.heap.size w W) => hm.below hb)
  have HB := Lib.hid (begun_any w hm)
  have hz := size_mk l
  clear hm
  by_cases hn : (2048 : Int) < l.length
  · have hn' : decide ((2048 : Int) < l.length) = true := decide_eq_true hn
    clear hn
    go_enter Tryd.func3, Tryd.ntmps3
    go_wp2_with fail
    refine HB.out.mono ?_
    rintro e w1 ⟨rfl, hb1⟩
    go_wp2_with fail
    go_ret
    exact ⟨rfl, hb1⟩
  have hn' : decide ((2048 : Int) < l.length) = false := decide_eq_false hn
  have HP := Lib.hid (fun W (hb : Below w.heap.size w W) => Parse_any l (by omega) W (HM.out W hb))
  have HR := Lib.hid (fun W (hb : Below w.heap.size w W) => RParse_any l (by omega) W)
  unfold Parsed at HP HR
  obtain ⟨P, Q, E, hR⟩ : ∃ P Q E, parseF l = (P, Q, E) := ⟨_, _, _, rfl⟩
  rw [hR] at HP HR
  clear hn hR
  go_enter Tryd.func3, Tryd.ntmps3
  go_wp2_with fail
  refine HB.out.mono ?_
  rintro e w1 ⟨rfl, hb1⟩
  go_wp2_with fail
  go_loopw [3] (fun i wr => ∃ k : Nat, k ≤ 2 ∧ i = .int .i64 k ∧ Below w.heap.size w wr) (fun i _ => 2 - (intOf i).toNat)
  case atStart => exact ⟨0, by omega, rfl, hb1⟩
  case round =>
    obtain ⟨k, hk, rfl, hb⟩ := hrel
    by_cases hk2 : k < 2
    · have hk2' : (k : Int) < 2 := by omega
      clear hk2 hk hb1
      go_wp2_with fail
      refine (HP.out _ hb).mono ?_
      rintro e w2 ⟨hbl2, A, n, c, B, m, d, rfl, hoA, hoB⟩
      have hb2 := hb.trans (hbl2.mono hb.size)
      have hs2 := hb.size
      dsimp only at hoA hoB ⊢
      go_upto_region 9 with (first
        | (refine wpList_alloc_zero rfl _ rfl tgZ zero_tg ?_; intro w3 hg3 hb3 hz3; clear hz3)
        | (refine wpList_store_all rfl _ _ _ rfl w2.heap.size rfl _ tgZ (tgA A n c B m d) rfl hg3 size_tg rfl tg_one ?_; intro w4 hg4 hgr4 hz4; clear hz4))
      have hb24 : Below w2.heap.size w2 w4 := hb3.grown hgr4 hb3.size (fun g hg => by obtain rfl := Option.some.inj hg; exact Nat.le_refl _)
      have hb4 := hb2.trans (hb24.mono hb2.size)
      have hlt4 : w2.heap.size < w4.heap.size := (Array.getElem?_eq_some_iff.1 hg4).1
      have hoA4 := hoA.below hb24
      have hoB4 := hoB.below hb24
      have hAg : ∀ q, blk A = some q → q < w2.heap.size := fun q hq => (hoA.lt q hq).2
      have hBg : ∀ q, blk B = some q → q < w2.heap.size := fun q hq => (hoB.lt q hq).2
      obtain ⟨g, hg⟩ : ∃ g, w2.heap.size = g := ⟨_, rfl⟩
      have hwg : w.heap.size ≤ g := by rw [← hg]; exact hb2.size
      rw [hg] at hg4 hlt4 hAg hBg ⊢
      clear hg3 hb3 hgr4 hb24 hoA hoB hb2 hbl2 hg
      go_wp2_with fail
      refine (HR.out _ hb4).mono ?_
      rintro e w5 ⟨hbl5, A', n', c', B', m', d', rfl, hoA', hoB'⟩
      dsimp only at hoA' hoB' ⊢
      have hb5 := hb4.trans (hbl5.mono hb4.size)
      have hg5 := (hbl5.block _ hlt4).trans hg4
      have hlt5 : g < w5.heap.size := Nat.lt_of_lt_of_le hlt4 hbl5.size
      have hoA5 := hoA4.below hbl5
      have hoB5 := hoB4.below hbl5
      obtain rfl : n = n' := by have h1 := hoA5.rd.len; have h2 := hoA'.rd.len; omega
      obtain rfl : m = m' := by have h1 := hoB5.rd.len; have h2 := hoB'.rd.len; omega
      clear hg4 hbl5 hoA4 hoB4 hb4
      go_upto_region 10 with (first
        | (refine wpList_alloc_zero rfl _ rfl tgZ zero_tg ?_; intro w6 hg6 hb6 hz6; clear hz6)
        | (refine wpList_store_all rfl _ _ _ rfl w5.heap.size rfl _ tgZ (tgA A' n c' B' m d') rfl hg6 size_tg rfl tg_one ?_; intro w7 hg7 hgr7 hz7; clear hz7))
      have hb57 : Below w5.heap.size w5 w7 := hb6.grown hgr7 hb6.size (fun g hg => by obtain rfl := Option.some.inj hg; exact Nat.le_refl _)
      have hb7 := hb5.trans (hb57.mono hb5.size)
      have hg57 := (hb57.block _ hlt5).trans hg5
      have hlt7 : g < w7.heap.size := Nat.lt_of_lt_of_le hlt5 hb57.size
      have hoA7 := hoA5.below hb57
      have hoB7 := hoB5.below hb57
      have HS := Lib.hid (Same_eq hoA7.rd (show Ps w7 B m d Q from hoB7.rd) (hoA'.below hb57).rd (show Ps w7 B' m d' Q from (hoB'.below hb57).rd))
      clear hg6 hb6 hgr7 hg5 hb57 hb5 hoA5 hoB5 hoA' hoB'
      go_wp2_with (first
        | (refine wpList_load_all (by rfl) _ _ rfl g rfl _ _ _ _ hg57 Tryd.underlying26 rfl size_tg ?_)
        | (refine wpList_load_all (by rfl) _ _ rfl w5.heap.size rfl _ _ _ _ hg7 Tryd.underlying26 rfl size_tg ?_))
      refine HS.out.mono ?_
      rintro e w8 ⟨rfl, hbl8⟩
      have hb8 := hb7.trans (hbl8.mono hb7.size)
      have hg8 := (hbl8.block _ hlt7).trans hg57
      have hoA8 := (hoA7.below hbl8).mono hs2
      have hrB8 := RowB.of ((hoB7.below hbl8).mono hs2)
      have hnilB := hoB7.rd.nil
      have hleB := hoB7.rd.le
      have hmxB := hoB7.rd.max
      have hmxA := hoA7.rd.max
      have hleA := hoA7.rd.le
      unfold maxLen at hmxA hmxB
      have hcs := cell_tg hg8
      obtain ⟨hc0, hc1⟩ := hcs
      clear hg57 hg7 hbl8 hoA7 hoB7 hb7 HS
      go_wp2_with fail
      clear hc0 hc1
      go_loopw [8] (fun j wr => ∃ (q : Nat) (xs : List Value), q ≤ n ∧ j = .int .i64 q ∧ Own wr w.heap.size 9 1 A n c xs ∧ RowB wr w.heap.size B m ∧ wr.heap[g]? = some (.cells (tgA A n c B m d) 26 (0, 0)) ∧ Below w.heap.size w wr) (fun j _ => n - (intOf j).toNat)
      case atStart => exact ⟨0, _, by omega, rfl, hoA8, hrB8, hg8, hb8⟩
      case round =>
        obtain ⟨q, xs, hq, rfl, ho, hrB, hgr, hbq⟩ := hrel
        obtain ⟨hc0, hc1⟩ := cell_tg hgr
        clear hoA8 hrB8 hg8 hb8
        by_cases hqn : q < n
        · have hxl : q < xs.length := by have := ho.rd.len; omega
          have hx : xs[q]? = some (xs[q]'hxl) := List.getElem?_eq_getElem _
          have hidx := run_index_rd (P := Tryd.prog) (A := A) (n := n) (c := c) es ho.rd.nil ho.rd.le q hqn
          rw [Nat.mul_one] at hidx
          have hcA := ho.rd.cell q _ hx
          have hfr := ho.free (k := q) (by omega)
          have hst := ho.store (k := q) (by omega) (.string ⟨#[63]⟩)
          have hbs := below_store hbq ho (k := q) (by omega) (.string ⟨#[63]⟩)
          obtain ⟨a, ha, hab⟩ := ho.rd.lt (k := q) (by omega)
          have hag : blk A = some a.block := by rw [ha]; rfl
          have hat : (at_ A q).block = a.block := by rw [ha, at_some, block_of_add]
          have hka : ∀ z, z ≠ a.block → (wr.setCell (at_ A q) (.string ⟨#[63]⟩)).heap[z]? = wr.heap[z]? := fun z hz => Below.heap_setCell wr _ _ z (by rw [hat]; exact hz)
          have hg2 := (hka g (by have := hAg _ hag; omega)).trans hgr
          have hr2 := hrB.keep (w' := wr.setCell (at_ A q) (.string ⟨#[63]⟩)) (fun z hz hlt ⟨cur, fr, hh⟩ => hka z (fun e => by
            obtain ⟨_, _, cur2, fr2, hh2, _⟩ := ho.own a ha
            rw [← e, hh] at hh2
            injection hh2 with hh2
            injection hh2 with _ hh2
            revert hh2
            decide))
          have hq' : (q : Int) < n := by omega
          have HST := Lib.hid hst
          have HBS := Lib.hid hbs
          have HG2 := Lib.hid hg2
          have HR2 := Lib.hid hr2
          clear hx hst hbs hqn ha hab hag hat hka hg2 hr2 hrB hgr
          go_wp2_with fail
          go_roundw
          case rel => exact ⟨q + 1, _, by omega, by go_num, HST.out, HR2.out, HG2.out, HBS.out⟩
          case measure => simp [intOf]; omega
        · obtain rfl : n = q := by omega
          clear hqn ho
          go_wp2_with fail
          clear hc0 hc1
          go_loopw [9] (fun j wr => ∃ (q : Nat), q ≤ m ∧ j = .int .i64 q ∧ RowB wr w.heap.size B m ∧ wr.heap[g]? = some (.cells (tgA A n c B m d) 26 (0, 0)) ∧ Below w.heap.size w wr) (fun j _ => m - (intOf j).toNat)
          case atStart => exact ⟨0, by omega, rfl, hrB, hgr, hbq⟩
          case round =>
            obtain ⟨p, hp, rfl, hrB, hgr, hbq⟩ := hrel
            obtain ⟨hc0, hc1⟩ := cell_tg hgr
            by_cases hpm : p < m
            · have hidx := fun W => idx_row B hnilB hleB hpm W
              have hp' : (p : Int) < m := by omega
              clear hc0
              go_wp2_with (first
                | (refine wpList_build_run rfl _ _ rfl #[] (by rfl) _ (build_pr0 _) ?_)
                | (refine wpList_store_pr rfl _ _ rfl hrB hpm rfl [] [] rfl ?_; intro w9 hr9 hgr9 hz9; clear hz9; have hg9 := (hgr9.block g (Array.getElem?_eq_some_iff.1 hgr).1 (fun e => by have := hBg g e.symm; omega)).trans hgr; have hb9 := row_below hrB hbq hgr9 (by omega)))
              go_roundw
              case rel => exact ⟨p + 1, by omega, by go_num, hr9, hg9, hb9⟩
              case measure => simp [intOf]; omega
            · obtain rfl : p = m := by omega
              clear hpm
              go_wp2_with fail
              go_roundw
              case rel => exact ⟨k + 1, by omega, by go_num, hbq⟩
              case measure => simp [intOf]; omega
    · obtain rfl : k = 2 := by omega
      clear hk2
      go_wp2_with fail
      go_ret
      exact ⟨rfl, hb⟩

end Go.Proofs.YteldghiejmpknaaDoor
