/-
  Joined texts of this claim's author (each began as a text of its own; each says itself what it holds).
-/
import Derived.Test.YtckkmdigmecagaaDoorG03
import Derived.Test.YtckkmdigmecagaaDoorG02
import Derived.Test.YtckkmdigmecagaaDoorG00
set_option linter.unusedVariables false
set_option linter.unusedSimpArgs false

/-
  The document's Alike and Same: of what is the same.
-/
namespace Go.Proofs.YtckkmdigmecagaaDoor
open Go.RowKit

section
variable {ops : Array Oper} {Q : Exit → Act → World → Prop}
theorem neq_fd {a b a2 b2 : Bs} (W : World) : (binOp .neq 56 (.agg (Fl.fdA a b)) (.agg (Fl.fdA a2 b2))).run Tryd.prog W = .ok (.bool (!Fl.fdEq a b a2 b2)) W := by
  rw [run_neq_struct, Fl.equal_fd]
  rfl
theorem plan_neq_fd {S : World → Prop} {i : Nat} {o : Oper} {p : MPlan} {a : Act} {w : World} (ho : ops[i]? = some o) {u v : Operand} {x y x2 y2 : Bs} (hop : o.op = .binOp .neq 56 u v 56) (hw : Region.wanted o (yielded ops a.tmps) = true) (hu : a.eval u = .agg (Fl.fdA x y)) (hv : a.eval v = .agg (Fl.fdA x2 y2))
    (h : wpPlan Tryd.prog ops Q S p (a.put o.dst (.bool (!Fl.fdEq x y x2 y2))) w) : wpPlan Tryd.prog ops Q S (.read i p) a w :=
  plan_run ho hw _ (fun w' _ => by
    have hg := run_eqGuard_agg (P := Tryd.prog) w' .neq 56 u v (Fl.fdA x y) (Fl.fdA x2 y2) (by kernel_rfl)
    unfold execOp
    simp only [hop, hu, hv, Sem.run_bind, Sem.run_pure, Result.andThen_ok, hg, neq_fd w']) h
end
theorem fdEq_self (x y : Bs) : (!Fl.fdEq x y x y) = false := by simp [Fl.fdEq]

set_option maxRecDepth 20000 in
set_option maxHeartbeats 4000000 in
theorem Alike_same {w : World} {A A2 : Option Addr} {n c n2 c2 : Nat} {fs : List Fl.Fd} (h : Fl.Fds w A n c fs) (h2 : Fl.Fds w A2 n2 c2 fs) :
    Calls Tryd.prog 18 #[.slice A n c, .slice A2 n2 c2] w fun e w' => e = .returned (.bool true) ∧ Below w.heap.size w w' := by
  have hl := h.len
  have hl2 := h2.len
  have hmx : n ≤ maxLen := Nat.le_trans (Rd.le h) (Rd.max h)
  unfold maxLen at hmx
  obtain rfl : n = n2 := hl.symm.trans hl2
  have HL := Lib.hid hl
  clear hl hl2
  go_enter Tryd.func18, Tryd.ntmps18
  go_wp2_with fail
  go_loopw [5] (fun i wr => ∃ k : Nat, k ≤ n ∧ i = .int .i64 k ∧ Below w.heap.size w wr) (fun i _ => n - (intOf i).toNat)
  case atStart => exact ⟨0, by omega, rfl, Below.refl _ _⟩
  case round =>
    obtain ⟨k, hk, rfl, hb⟩ := hrel
    by_cases hlt : k < n
    · have hx : fs[k]? = some (fs[k]'(by rw [HL.out]; exact hlt)) := List.getElem?_eq_getElem _
      generalize fs[k]'(by rw [HL.out]; exact hlt) = f at hx
      have hidx := fun W => h.idx hlt W
      have hidy := fun W => h2.idx hlt W
      have hlx := fun b : Later wr => Fl.Fds.load ((h.below hb).below b.below) hx
      have hly := fun b : Later wr => Fl.Fds.load ((h2.below hb).below b.below) hx
      obtain ⟨N, V⟩ := f
      dsimp only at hlx hly
      have hk' : (k : Int) < n := by omega
      clear hx
      go_wp2_with fail
      refine wp_region_plan (MPlan.reads [0, 1, 2, 3, 4, 5, 6, 7, 8] .fin) (fun x => ∃ b : Later wr, x = b.at') (by kernel_rfl) (by kernel_rfl) (by kernel_rfl) (fun _ _ _ _ _ h => h) ⟨⟨wr.drew, (Below.refl _ _).drew⟩, rfl⟩ ?_
      iterate 3 (refine plan_read (o := ⟨_, _, _, _, _, _⟩) (by rfl) (by rfl) ?_; go_big_quiet_step (fail); refine wpQuiet_nil ?_)
      refine plan_load (o := ⟨_, _, _, _, _, _⟩) (by rfl) rfl (by rfl) _ rfl _ (fun w' hS => by obtain ⟨b, rfl⟩ := hS; exact hlx b) ?_
      simp only [Act.put, List.setIfInBounds_toArray, List.set_cons_succ, List.set_cons_zero]
      iterate 3 (refine plan_read (o := ⟨_, _, _, _, _, _⟩) (by rfl) (by rfl) ?_; go_big_quiet_step (fail); refine wpQuiet_nil ?_)
      refine plan_load (o := ⟨_, _, _, _, _, _⟩) (by rfl) rfl (by rfl) _ rfl _ (fun w' hS => by obtain ⟨b, rfl⟩ := hS; exact hly b) ?_
      simp only [Act.put, List.setIfInBounds_toArray, List.set_cons_succ, List.set_cons_zero]
      refine plan_neq_fd (o := ⟨_, _, _, _, _, _⟩) (by rfl) rfl (by rfl) rfl rfl ?_
      rw [fdEq_self]
      simp only [Act.put, List.setIfInBounds_toArray, List.set_cons_succ, List.set_cons_zero]
      refine plan_fin ?_
      have hb2 := hb.drew
      clear hlx hly hidx hidy hb hlt
      go_wp2_with fail
      go_roundw
      case rel => exact ⟨k + 1, by omega, by go_num, hb2⟩
      case measure => simp [intOf]; omega
    · obtain rfl : k = n := by omega
      go_wp2_with fail
      go_ret
      exact ⟨rfl, hb⟩

set_option maxRecDepth 20000 in
set_option maxHeartbeats 8000000 in
theorem Same_same {w : World} {M T : Bs} {F F2 D D2 : Option Addr} {nF cF nF2 cF2 nD cD nD2 cD2 : Nat} {kp : Bool} {fs : List Fl.Fd} {bd : Bs} (hF : Fl.Fds w F nF cF fs) (hF2 : Fl.Fds w F2 nF2 cF2 fs) (hD : Rd w 1 D nD cD (bd.map b8)) (hD2 : Rd w 1 D2 nD2 cD2 (bd.map b8)) :
    Calls Tryd.prog 14 #[.agg (reqA M T F nF cF D nD cD kp), .agg (reqA M T F2 nF2 cF2 D2 nD2 cD2 kp)] w fun e w' => e = .returned (.bool true) ∧ Below w.heap.size w w' := by
  go_enter Tryd.func14, Tryd.ntmps14
  have hbb : Below w.heap.size w ((w.alloc (.cells (reqA M T F nF cF D nD cD kp) 40)).alloc (.cells (reqA M T F2 nF2 cF2 D2 nD2 cD2 kp) 40)) := ((Below.refl _ _).alloc (Nat.le_refl _) _).alloc (by simp) _
  have HA := Lib.hid (Alike_same (Fl.Fds.below hF hbb) (Fl.Fds.below hF2 hbb))
  have hs1 := run_str_rd (P := Tryd.prog) (dst := 9) eb Tryd.underlying5 Tryd.underlying9 (hD.below hbb)
  have hs2 := run_str_rd (P := Tryd.prog) (dst := 9) eb Tryd.underlying5 Tryd.underlying9 (hD2.below hbb)
  have HB := Lib.hid hbb
  clear hbb hF hF2 hD hD2
  unfold reqA at HA hs1 hs2 HB ⊢
  go_wp2_with fail
  refine HA.out.mono ?_
  rintro e w2 ⟨rfl, hb2⟩
  have hb3 := HB.out.trans (hb2.mono HB.out.size)
  clear hb2 HA HB hs1 hs2
  go_wp2_with fail
  go_ret
  exact ⟨rfl, hb3⟩

end Go.Proofs.YtckkmdigmecagaaDoor

/-
  How a slice of ints that came in is opened.
-/
namespace Go.Proofs.YtckkmdigmecagaaDoor
open Go.ChangeShapes Go.WideShapes Go.ChangeAt Go.RowKit

/-- An int as a cell. -/
def i8 (x : Int) : Value := .int .i64 x
/-- A slice that reads as these ints, each within its bounds. -/
structure RdI (w : World) (A : Option Addr) (n c : Nat) (zs : List Int) : Prop where
  rd : Rd w 1 A n c (zs.map i8)
  lo : ∀ z ∈ zs, -9223372036854775808 ≤ z
  hi : ∀ z ∈ zs, z ≤ 9223372036854775807
theorem RdI.below {w w' : World} {A : Option Addr} {n c : Nat} {zs : List Int} (h : RdI w A n c zs) (hb : Below w.heap.size w w') : RdI w' A n c zs := ⟨h.rd.below hb, h.lo, h.hi⟩

theorem rd_i64s {w : World} {a : Option Addr} {len cap : Nat} {zs : List Int}
    (h : (a = none ∧ len = 0 ∧ cap = 0 ∧ zs = []) ∨ ∃ x, a = some x ∧ len ≤ cap ∧ cap ≤ maxLen ∧ zs.length = cap ∧ (∀ i, i < zs.length → w.cell? (x.add i) = some (.int .i64 (zs.getD i 0))) ∧ ∀ n ∈ zs, (Lit.int .i64 n).wf = true) :
    ∃ l : List Int, RdI w a len cap l := by
  rcases h with ⟨rfl, rfl, rfl, rfl⟩ | ⟨x, rfl, hl, hm, hz, hcell, hwz⟩
  · exact ⟨[], Rd.nil_ w 1, by simp, by simp⟩
  · refine ⟨zs.take len, ⟨by simp; omega, hl, hm, (fun h => by cases h), fun j u hu => ?_⟩, fun z hz => (wfb_i64 (hwz z (List.mem_of_mem_take hz))).1, fun z hz => (wfb_i64 (hwz z (List.mem_of_mem_take hz))).2⟩
    rw [List.getElem?_map, List.getElem?_take] at hu
    split at hu
    · have hjz : j < zs.length := by omega
      rw [List.getElem?_eq_getElem hjz] at hu
      simp only [Option.map_some, Option.some.injEq] at hu
      subst hu
      have hc := hcell j hjz
      rw [at_some, hc]
      simp only [List.getD, List.getElem?_eq_getElem hjz, Option.getD_some]
      rfl
    · cases hu

end Go.Proofs.YtckkmdigmecagaaDoor

/-
  cofferlaw0's Place.
-/
namespace Go.Proofs.YtckkmdigmecagaaDoor
open Go.RowKit

/-- A number from 0 to n - 1. -/
def placeP (k : Int) (n : Nat) : Nat := if n = 0 then 0 else (k % (n : Int)).toNat
theorem placeP_lt (k : Int) (n : Nat) (h : 1 ≤ n) : placeP k n < n := by
  unfold placeP
  rw [if_neg (by omega)]
  have h1 := Int.emod_nonneg k (b := (n : Int)) (by omega)
  have h2 := Int.emod_lt_of_pos k (b := (n : Int)) (by omega)
  omega
theorem place_pos (k : Int) (n : Nat) (h : 1 ≤ n) (hk : 0 ≤ k) : k.tmod n = (placeP k n : Nat) := by
  rw [Int.tmod_eq_emod_of_nonneg hk]
  unfold placeP
  rw [if_neg (by omega)]
  have h1 := Int.emod_nonneg k (b := (n : Int)) (by omega)
  omega
theorem place_neg (k : Int) (n : Nat) (h : 1 ≤ n) (hk : k < 0) : (k.tmod n = 0 ∧ placeP k n = 0) ∨ (k.tmod n < 0 ∧ -(n : Int) < k.tmod n ∧ k.tmod n + n = (placeP k n : Nat)) := by
  have e : k.tmod n = -((-k) % (n : Int)) := by
    have : k = -(-k) := by omega
    rw [this, Int.neg_tmod, Int.tmod_eq_emod_of_nonneg (by omega)]
    simp
  have h1 := Int.emod_nonneg (-k) (b := (n : Int)) (by omega)
  have h2 := Int.emod_lt_of_pos (-k) (b := (n : Int)) (by omega)
  have h3 := Int.emod_nonneg k (b := (n : Int)) (by omega)
  have h4 := Int.emod_lt_of_pos k (b := (n : Int)) (by omega)
  have h5 := Int.mul_ediv_add_emod (-k) n
  have h6 := Int.mul_ediv_add_emod k n
  rw [e]
  unfold placeP
  rw [if_neg (by omega)]
  have h7 : (n : Int) * ((-k) / n + k / n) = -((-k) % n + k % n) := by rw [Int.mul_add]; omega
  obtain ⟨q, hq⟩ : ∃ q, (-k) / (n : Int) + k / n = q := ⟨_, rfl⟩
  rw [hq] at h7
  by_cases h0 : (-k) % (n : Int) = 0
  · left
    refine ⟨by omega, ?_⟩
    have : k % (n : Int) = 0 := by
      have : q = 0 := by
        rcases Int.lt_trichotomy q 0 with hlt | h | hgt
        · have : (n : Int) * q ≤ n * (-1) := Int.mul_le_mul_of_nonneg_left (by omega) (by omega)
          omega
        · exact h
        · have : (n : Int) * 1 ≤ n * q := Int.mul_le_mul_of_nonneg_left (by omega) (by omega)
          omega
      rw [this] at h7
      omega
    omega
  · right
    refine ⟨by omega, by omega, ?_⟩
    have : q = -1 := by
      rcases Int.lt_trichotomy q (-1) with hlt | h | hgt
      · have : (n : Int) * q ≤ n * (-2) := Int.mul_le_mul_of_nonneg_left (by omega) (by omega)
        omega
      · exact h
      · have : (n : Int) * 0 ≤ n * q := Int.mul_le_mul_of_nonneg_left (by omega) (by omega)
        omega
    rw [this] at h7
    omega

theorem Place_any (k : Int) (n : Nat) (w : World) (hk0 : -9223372036854775808 ≤ k) (hk1 : k ≤ 9223372036854775807) (hn : n ≤ 1152921504606846976) :
    Calls Tryd.prog 10 #[.int .i64 k, .int .i64 (n : Int)] w fun e w' => e = .returned (.int .i64 (placeP k n : Nat)) ∧ w = w' := by
  by_cases h : 1 ≤ n
  · have hn1 : (1 : Int) ≤ n := by omega
    have hn2 : (n : Int) ≤ 1152921504606846976 := by omega
    have hlt := placeP_lt k n h
    by_cases hk : 0 ≤ k
    · have HT := Lib.hid (place_pos k n h hk)
      have hb := Int.emod_nonneg k (b := (n : Int)) (by omega)
      have HE : Hid (k % (n : Int) = (placeP k n : Nat)) := by
        show _ = _
        rw [← Int.tmod_eq_emod_of_nonneg hk]
        exact HT.out
      clear HT hlt
      go_enter Tryd.func10, Tryd.ntmps10
      go_wp2_with fail
      go_ret
      rw [HE.out]
      exact ⟨rfl, rfl⟩
    · have hk' : k < 0 := by omega
      have ht := place_neg k n h hk'
      obtain ⟨t, hT⟩ : ∃ t, k.tmod n = t := ⟨_, rfl⟩
      rw [hT] at ht
      have hrun : IntKind.i64.wrap t = t := by
        rw [IntKind.wrap_i64]
        rcases ht with ⟨h1, _⟩ | ⟨h1, h2, _⟩ <;> omega
      rcases ht with ⟨h1, h2⟩ | ⟨h1, h2, h3⟩
      · subst h1
        have HP := Lib.hid h2
        clear hk h2 hrun
        go_enter Tryd.func10, Tryd.ntmps10
        go_wp2_with fail
        go_ret
        rw [HP.out]
        exact ⟨rfl, rfl⟩
      · have H3 := Lib.hid h3
        clear hk h3 hrun
        go_enter Tryd.func10, Tryd.ntmps10
        go_wp2_with fail
        go_ret
        rw [H3.out]
        exact ⟨rfl, rfl⟩
  · obtain rfl : n = 0 := by omega
    go_enter Tryd.func10, Tryd.ntmps10
    go_wp2_with fail
    go_ret
    exact ⟨rfl, rfl⟩

end Go.Proofs.YtckkmdigmecagaaDoor

/-
  cofferlaw0's Place and Cut.
-/
namespace Go.Proofs.YtckkmdigmecagaaDoor
open Go.RowKit

theorem RdI.at {w : World} {A : Option Addr} {n c : Nat} {zs : List Int} (h : RdI w A n c zs) {t : TypeId} {z0 : Value} {bytes : Nat} (et : ElemT Tryd.prog t 3 z0 1 bytes) (J : Int) (k : Nat) (hJ : J = k) (hk : k < n) :
    ∃ z, Hid (zs[k]? = some z) ∧ (∀ W, (Instr.indexAt t (.slice A n c) (.int .i64 J)).run Tryd.prog W = .ok (.pointer (some (at_ A k))) W) ∧
      w.cell? (at_ A k) = some (.int .i64 z) ∧ -9223372036854775808 ≤ z ∧ z ≤ 9223372036854775807 := by
  subst hJ
  have hl := h.rd.len
  simp only [List.length_map, Nat.mul_one] at hl
  have hkl : k < zs.length := by omega
  refine ⟨zs[k], List.getElem?_eq_getElem hkl, fun W => by simpa using run_index_rd et h.rd.nil h.rd.le k hk W, h.rd.cell k _ ?_, h.lo _ (List.getElem_mem hkl), h.hi _ (List.getElem_mem hkl)⟩
  rw [List.getElem?_map, List.getElem?_eq_getElem hkl]
  rfl
theorem ei : ElemT Tryd.prog 23 3 (.int .i64 0) 1 8 := ElemT.of Tryd.underlying23 (by kernel_rfl) rfl (by omega)

/-- All bytes of the rows. -/
def flat (ll : List Row) : List UInt8 := (ll.map Row.l).flatten
theorem flat_snoc (ll : List Row) (r : Row) : flat (ll ++ [r]) = flat ll ++ r.l := by simp [flat]

end Go.Proofs.YtckkmdigmecagaaDoor

/-
  cofferlaw0's Cut.
-/
namespace Go.Proofs.YtckkmdigmecagaaDoor
open Go.RowKit

theorem Rows2.below {w w' : World} {A : Option Addr} {n c : Nat} {ll : List Row} (h : Rows2 w A n c ll) (hb : Below w.heap.size w w') : Rows2 w' A n c ll := h.keep hb
set_option maxRecDepth 20000 in
set_option maxHeartbeats 4000000 in
theorem CutL_any {w : World} (A : Option Addr) (n c : Nat) (l : List UInt8) (h : Rd w 1 A n c (l.map b8)) (A2 : Option Addr) (n2 c2 : Nat) (zs : List Int) (h2 : RdI w A2 n2 c2 zs) (hn : n ≤ 1073741824) (hn2 : n2 ≤ 1048576) :
    Calls Tryd.prog 8 #[.slice A n c, .slice A2 n2 c2] w fun e w' => ∃ L m d ll, e = .returned (.slice L m d) ∧ Own w' w.heap.size 22 1 L m d (ll.map Row.val) ∧ (∀ r ∈ ll, Rd w 1 r.A r.n r.c (r.l.map b8) ∧ 1 ≤ r.n ∧ r.n ≤ n ∧ blk r.A = blk A) ∧ flat ll = l ∧ m ≤ n2 + 1 ∧ Below w.heap.size w w' := by
  have HH := Lib.hid h
  have H2 := Lib.hid h2
  have hln := Lib.hid h.lenb
  clear h h2
  go_enter Tryd.func8, Tryd.ntmps8
  go_wp2_with fail
  go_loopw [0, 5, 6] (fun b o i wr => ∃ (j k : Nat) (A1 : Option Addr) (c1 : Nat) (L : Option Addr) (m d : Nat) (ll : List Row), j ≤ n2 ∧ k ≤ n ∧ b = .slice A1 (n - k) c1 ∧ o = .slice L m d ∧ i = .int .i64 j ∧ Hid (Rd w 1 A1 (n - k) c1 ((l.drop k).map b8)) ∧ n - k ≤ c1 ∧ c1 ≤ maxLen ∧ Hid (blk A1 = blk A) ∧
      Own wr w.heap.size 22 1 L m d (ll.map Row.val) ∧ Hid (∀ r ∈ ll, Rd w 1 r.A r.n r.c (r.l.map b8) ∧ 1 ≤ r.n ∧ r.n ≤ n ∧ blk r.A = blk A) ∧ Hid (flat ll = l.take k) ∧ m ≤ j ∧ Below w.heap.size w wr) (fun _ _ i _ => n2 - (intOf i).toNat)
  case atStart => exact ⟨0, 0, A, c, none, 0, 0, [], by omega, by omega, rfl, rfl, rfl, by simpa [Hid] using HH.out, HH.out.le, HH.out.max, rfl, Own.nil_ _ _ _ _, (show ∀ r ∈ ([] : List Row), _ from fun r hr => (List.not_mem_nil hr).elim), (show flat [] = l.take 0 from rfl), by omega, Below.refl _ _⟩
  case round =>
    obtain ⟨j, k, A1, c1, L, m, d, ll, hj, hk, rfl, rfl, rfl, hR, hc1, hc2, hbA, ho, hE, hF, hm, hb⟩ := hrel
    have fin : ∀ (wr : World) (L : Option Addr) (m d : Nat) (ll : List Row), Own wr w.heap.size 22 1 L m d (ll.map Row.val) → (∀ r ∈ ll, Rd w 1 r.A r.n r.c (r.l.map b8) ∧ 1 ≤ r.n ∧ r.n ≤ n ∧ blk r.A = blk A) → flat ll = l → m ≤ n2 + 1 → Below w.heap.size w wr →
        ∃ L' m' d' ll', Ending.returned (.slice L m d) = .returned (.slice L' m' d') ∧ Own wr w.heap.size 22 1 L' m' d' (ll'.map Row.val) ∧ (∀ r ∈ ll', Rd w 1 r.A r.n r.c (r.l.map b8) ∧ 1 ≤ r.n ∧ r.n ≤ n ∧ blk r.A = blk A) ∧ flat ll' = l ∧ m' ≤ n2 + 1 ∧ Below w.heap.size w wr :=
      fun wr L m d ll a1 a2 a3 a4 a5 => ⟨L, m, d, ll, rfl, a1, a2, a3, a4, a5⟩
    have Fin := Lib.hid fin
    clear fin
    have hml := ho.rd.len
    obtain ⟨q, hq⟩ : ∃ q, n - k = q := ⟨_, rfl⟩
    rw [hq] at hR hc1 ⊢
    have hqn : q ≤ n := by omega
    have HQ := Lib.hid hq
    have HML := Lib.hid hml
    clear hq hml
    unfold maxLen at hc2
    by_cases hgo : j < n2 ∧ 1 ≤ q
    · obtain ⟨g1, g2⟩ := hgo
      obtain ⟨z, hz, hidx, hcell, hz0, hz1⟩ := (H2.out.below hb).at ei (j : Int) j rfl g1
      obtain ⟨p, hp⟩ : ∃ p, placeP z q = p := ⟨_, rfl⟩
      have hpl := placeP_lt z q g2
      have hP := Lib.hid (fun w => Place_any z q w hz0 hz1 (by omega))
      rw [hp] at hpl hP
      clear hp
      have hs1 := run_slice_h_rd (P := Tryd.prog) (A := A1) (n := q) (c := c1) eb (kh := .i64) (p + 1) (H := (p : Int) + 1) (by omega) (by omega)
      have hs2 := run_slice_l_rd (P := Tryd.prog) (A := A1) (n := q) (c := c1) eb (kl := .i64) (p + 1) (L := (p : Int) + 1) (by omega) (by omega)
      have g1' : (j : Int) < n2 := by omega
      have g2' : (0 : Int) < q := by omega
      clear g1 g2
      go_wp2_with (first
        | (go_at_call 10; refine (hP.out _).mono ?_; rintro e w1 ⟨rfl, rfl⟩)
        | (at_builtin; refine wpList_app rfl _ _ rfl er (ho.alloc _) rfl (Rd.lit _ [_] _ 1 rfl (by unfold maxLen; omega)) rfl (by simp [Value.oneCell']) (by omega) (by unfold maxLen; omega) (by have := hb.size; simp; omega) ?_; intro L2 d2 w2 ho2 hg2 hq2))
      go_roundw
      case rel =>
        have hk2 : k + (p + 1) ≤ n := by have := HQ.out; omega
        have e1 : n - (k + (p + 1)) = q - (p + 1) := by have := HQ.out; omega
        refine ⟨j + 1, k + (p + 1), cutA A1 c1 (p + 1) 1, c1 - (p + 1), L2, m + 1, d2, ll ++ [⟨A1, p + 1, c1, (l.drop k).take (p + 1)⟩], by omega, hk2, by rw [e1], rfl, by go_num, ?_, by omega, by unfold maxLen; omega, (show _ = _ by rw [blk_cutA]; exact hbA.out), ?_, ?_, ?_, by omega, ?_⟩
        · show Rd _ _ _ _ _ _
          rw [e1]
          have := hR.out.drop_ (k := p + 1) (by omega)
          rw [List.drop_drop] at this
          exact this
        · rw [List.map_append]
          exact ho2
        · intro r hr
          rcases List.mem_append.1 hr with h | h
          · exact hE.out r h
          · obtain rfl : r = _ := by simpa using h
            refine ⟨hR.out.take_ (k := p + 1) (by omega), by dsimp only; omega, by dsimp only; omega, hbA.out⟩
        · show _ = _
          rw [flat_snoc, hF.out]
          dsimp only
          rw [← List.take_add]
        · exact (hb.alloc hb.size _).grown hg2 (by have := hb.size; simp; omega) (fun g hg => (ho.lt g hg).1)
      case measure => simp [intOf]; omega
    · by_cases hq0 : 1 ≤ q
      · have hj2 : (n2 : Int) ≤ j := by omega
        have hq' : (0 : Int) < q := by omega
        clear hgo hq0
        go_wp2_with (at_builtin; refine wpList_app rfl _ _ rfl er (ho.alloc _) rfl (Rd.lit _ [_] _ 1 rfl (by unfold maxLen; omega)) rfl (by simp [Value.oneCell']) (by omega) (by unfold maxLen; omega) (by have := hb.size; simp; omega) ?_; intro L2 d2 w2 ho2 hg2 hq2)
        go_ret
        refine Fin.out w2 L2 (m + 1) d2 (ll ++ [⟨A1, q, c1, l.drop k⟩]) (by rw [List.map_append]; exact ho2) ?_ ?_ (by omega) ((hb.alloc hb.size _).grown hg2 (by have := hb.size; simp; omega) (fun g hg => (ho.lt g hg).1))
        · intro r hr
          rcases List.mem_append.1 hr with h | h
          · exact hE.out r h
          · obtain rfl : r = _ := by simpa using h
            refine ⟨hR.out, by dsimp only; omega, hqn, hbA.out⟩
        · rw [flat_snoc, hF.out]
          dsimp only
          exact List.take_append_drop k l
      · have hq' : (q : Int) ≤ 0 := by omega
        have hkl : l.length ≤ k := by
          have := HQ.out
          have := hln.out
          omega
        have hgo' : (n2 : Int) ≤ j ∨ (j : Int) < n2 := by omega
        clear hgo hq0
        rcases hgo' with h1 | h1
        all_goals
          go_wp2_with fail
          go_ret
          refine Fin.out _ L m d ll ho hE.out ?_ (by omega) hb
          rw [hF.out, List.take_of_length_le hkl]

end Go.Proofs.YtckkmdigmecagaaDoor

/-
  The law ChunkPieces: pieces.
-/
namespace Go.Proofs.YtckkmdigmecagaaDoor
open Go.RowKit

theorem feedP_app : ∀ (l : List UInt8) (s : St) (x : List UInt8), feedP s (l ++ x) = ((feedP s l).1 + (feedP (feedP s l).2 x).1, (feedP (feedP s l).2 x).2)
  | [], s, x => by simp [feedP]
  | a :: l, s, x => by
    by_cases hn : s.nx = 9 ∨ s.bd ≠ 0
    · rw [feedP_stop hn, feedP_stop hn (a :: l)]
      dsimp only
      rw [feedP_stop hn x]
      simp
    · rw [List.cons_append, feedP, if_neg hn, feedP_app l, feedP, if_neg hn]
      simp only [Nat.add_right_comm]
theorem Rows2.but {S : Nat → Prop} {w w' : World} {A : Option Addr} {n c : Nat} {ll : List Row} (h : Rows2 w A n c ll) (hb : But S w w') (h1 : ∀ k, (blk A = some k ∨ ∃ r ∈ ll, blk r.A = some k) → ¬ S k) : Rows2 w' A n c ll :=
  ⟨h.rd.but hb fun k hk => h1 k (.inl hk), fun r hr => (h.each r hr).but hb fun k hk => h1 k (.inr ⟨r, hr, hk⟩)⟩
theorem flat_take {ll : List Row} {j : Nat} {r : Row} (h : ll[j]? = some r) : flat (ll.take (j + 1)) = flat (ll.take j) ++ r.l := by
  obtain ⟨hj, rfl⟩ := List.getElem?_eq_some_iff.1 h
  rw [List.take_succ_eq_append_getElem hj, flat_snoc]
theorem flat_drop {ll : List Row} (j : Nat) : flat ll = flat (ll.take j) ++ flat (ll.drop j) := by
  unfold flat
  rw [← List.flatten_append, ← List.map_append, List.take_append_drop]

end Go.Proofs.YtckkmdigmecagaaDoor

/-
  Rows of requests are read; requests of pieces.
-/
namespace Go.Proofs.YtckkmdigmecagaaDoor
open Go.RowKit

theorem rqL_app : ∀ (a b : List RP), rqL (a ++ b) = rqL a ++ rqL b
  | [], b => rfl
  | p :: a, b => by rw [List.cons_append, rqL, rqL, rqL_app a b, List.append_assoc]
theorem rqL_one : ∀ (l : List RP), ∀ u ∈ rqL l, u.oneCell' = true
  | [], u, h => by simp [rqL] at h
  | p :: l, u, h => by
    rw [rqL, List.mem_append] at h
    rcases h with h | h
    · exact req_one u h
    · exact rqL_one l u h
/-- Two rows, one behind the other. -/
theorem Reqs.append {w w' : World} {base n c n2 c2 : Nat} {A A2 : Option Addr} {l1 l2 : List RP} (h : Reqs w base A n c l1) (h2 : Reqs w base A2 n2 c2 l2) (hd : ∀ k ∈ reqB A l1, k ∉ reqB A2 l2)
    {A' : Option Addr} {n' c' : Nat} (hg : w.grownBy w' (blk A)) (ho : Own w' base 40 5 A' n' c' (rqL l1 ++ rqL l2)) (hA : blk A' = blk A ∨ blk A' = some w.heap.size) : Reqs w' base A' n' c' (l1 ++ l2) := by
  have h0 := h.nd
  have h02 := h2.nd
  rw [List.nodup_append] at h0 h02
  obtain ⟨n1, nn2, n3⟩ := h0
  obtain ⟨m1, m2, m3⟩ := h02
  have hX1 : ∀ k ∈ l1.flatMap RP.blocks, blk A ≠ some k := fun k hk e => n3 k (blk_mem e) k hk rfl
  have hX2 : ∀ k ∈ l2.flatMap RP.blocks, blk A ≠ some k := fun k hk e => hd k (List.mem_append_left _ (blk_mem e)) (List.mem_append_right _ hk)
  refine ⟨by rw [rqL_app]; exact ho, fun q hq => ?_, ?_⟩
  · rcases List.mem_append.1 hq with h1 | h1
    · obtain ⟨h3, h4⟩ := h.each q h1
      exact ⟨h3.grown hg fun k hk e => hX1 k (List.mem_flatMap.2 ⟨q, h1, List.mem_append_left _ (blk_mem hk)⟩) e, h4.grown hg fun k hk e => hX1 k (List.mem_flatMap.2 ⟨q, h1, List.mem_append_right _ (blk_mem hk)⟩) e⟩
    · obtain ⟨h3, h4⟩ := h2.each q h1
      exact ⟨h3.grown hg fun k hk e => hX2 k (List.mem_flatMap.2 ⟨q, h1, List.mem_append_left _ (blk_mem hk)⟩) e, h4.grown hg fun k hk e => hX2 k (List.mem_flatMap.2 ⟨q, h1, List.mem_append_right _ (blk_mem hk)⟩) e⟩
  · rw [List.flatMap_append, List.nodup_append]
    refine ⟨by cases blk A' <;> simp, ?_, fun a ha b hb e => ?_⟩
    · rw [List.nodup_append]
      refine ⟨nn2, m2, fun a ha b hb e => ?_⟩
      subst e
      exact hd a (List.mem_append_right _ ha) (List.mem_append_right _ hb)
    · subst e
      have ha' : blk A' = some a := by simpa using ha
      rcases hA with h1 | h1
      · rcases List.mem_append.1 hb with h3 | h3
        · exact hX1 a h3 (h1.symm.trans ha')
        · exact hX2 a h3 (h1.symm.trans ha')
      · have h3 := Option.some.inj (h1.symm.trans ha')
        rcases List.mem_append.1 hb with h4 | h4
        · have := (h.in_ a (List.mem_append_right _ h4)).2
          omega
        · have := (h2.in_ a (List.mem_append_right _ h4)).2
          omega
theorem reqB_append {w : World} {A A2 A' : Option Addr} {l1 l2 : List RP} (hA : blk A' = blk A ∨ blk A' = some w.heap.size) : ∀ k ∈ reqB A' (l1 ++ l2), k ∈ reqB A l1 ∨ k ∈ reqB A2 l2 ∨ k = w.heap.size := by
  intro k hk
  rcases List.mem_append.1 hk with h1 | h1
  · have h1' : blk A' = some k := by simpa using h1
    rcases hA with h2 | h2
    · exact .inl (List.mem_append_left _ (blk_mem (h2.symm.trans h1')))
    · exact .inr (.inr (Option.some.inj (h2.symm.trans h1')).symm)
  · rw [List.flatMap_append] at h1
    rcases List.mem_append.1 h1 with h2 | h2
    · exact .inl (List.mem_append_right _ h2)
    · exact .inr (.inl (List.mem_append_right _ h2))
/-- A row of requests that is read. -/
structure RqR (w : World) (A : Option Addr) (n c : Nat) (l : List RP) : Prop where
  row : Rd w 5 A n c (rqL l)
  each : ∀ p ∈ l, Fl.Fds w p.2.F p.2.nF p.2.cF p.1.fs ∧ Rd w 1 p.2.D p.2.nD p.2.cD (p.1.bd.map b8)
section
variable {w w' : World} {base n c k : Nat} {A : Option Addr} {l : List RP} {p : RP}
theorem Reqs.rd (h : Reqs w base A n c l) : RqR w A n c l := ⟨h.row.rd, fun p hp => ⟨(h.each p hp).1.rd, (h.each p hp).2.rd⟩⟩
theorem RqR.below (h : RqR w A n c l) (hb : Below w.heap.size w w') : RqR w' A n c l := ⟨h.row.below hb, fun p hp => ⟨(h.each p hp).1.below hb, (h.each p hp).2.below hb⟩⟩
theorem RqR.len (h : RqR w A n c l) : l.length = n := by
  have := h.row.len
  rw [rqL_len] at this
  omega
theorem RqR.load (h : RqR w A n c l) (hx : l[k]? = some p) : (loadVar 40 (at_ A (k * 5))).run Tryd.prog w = .ok (.agg (RP.arr p)) w := by
  have hl := run_loadCells_list (P := Tryd.prog) w (at_ A (k * 5)) (RP.arr p).toList (fun j v hv => by
    rw [Fl.at_add2]
    have hj : j < 5 := (List.getElem?_eq_some_iff.1 hv).1
    exact h.row.cell (k * 5 + j) v (by rw [Nat.mul_comm k 5, rqL_at l k p hx j hj]; exact hv))
  have e : (RP.arr p).toList.length = 5 := rfl
  have e2 : ((RP.arr p).toList).toArray = RP.arr p := rfl
  rw [e, e2] at hl
  simp [loadVar, isAgg, run_underlying Tryd.underlying40, sizeOf_run size_req0, hl]
theorem RqR.idx (h : RqR w A n c l) (hk : k < n) (W : World) : (Instr.indexAt 25 (.slice A n c) (.int .i64 (k : Int))).run Tryd.prog W = .ok (.pointer (some (at_ A (k * 5)))) W :=
  run_index_rd eq_ h.row.nil h.row.le k hk W
end
theorem Same_rp {w : World} {p q : RP} (h : p.1 = q.1) (h1 : Fl.Fds w p.2.F p.2.nF p.2.cF p.1.fs ∧ Rd w 1 p.2.D p.2.nD p.2.cD (p.1.bd.map b8)) (h2 : Fl.Fds w q.2.F q.2.nF q.2.cF q.1.fs ∧ Rd w 1 q.2.D q.2.nD q.2.cD (q.1.bd.map b8)) :
    Calls Tryd.prog 14 #[.agg (RP.arr p), .agg (RP.arr q)] w fun e w' => e = .returned (.bool true) ∧ Below w.heap.size w w' := by
  unfold RP.arr
  rw [← h] at h2 ⊢
  exact Same_same h1.1 h2.1 h1.2 h2.2

set_option maxRecDepth 20000 in
set_option maxHeartbeats 8000000 in
theorem same_any {w : World} {A A2 : Option Addr} {n c n2 c2 : Nat} {l l2 : List RP} (h : RqR w A n c l) (h2 : RqR w A2 n2 c2 l2) (he : l.map (·.1) = l2.map (·.1)) :
    Calls Tryd.prog 9 #[.slice A n c, .slice A2 n2 c2] w fun e w' => e = .returned (.bool true) ∧ Below w.heap.size w w' := by
  have hl := h.len
  have hl2 := h2.len
  have hmx : n ≤ maxLen := Nat.le_trans h.row.le h.row.max
  unfold maxLen at hmx
  obtain rfl : n = n2 := by
    have := congrArg List.length he
    simp only [List.length_map] at this
    omega
  have HL := Lib.hid (show l.length = n ∧ l2.length = n ∧ l.map (·.1) = l2.map (·.1) from ⟨hl, hl2, he⟩)
  clear hl hl2 he
  go_enter Tryd.func9, Tryd.ntmps9
  go_wp2_with fail
  go_loopw [5] (fun i wr => ∃ k : Nat, k ≤ n ∧ i = .int .i64 k ∧ Below w.heap.size w wr) (fun i _ => n - (intOf i).toNat)
  case atStart => exact ⟨0, by omega, rfl, Below.refl _ _⟩
  case round =>
    obtain ⟨k, hk, rfl, hb⟩ := hrel
    by_cases hlt : k < n
    · have hx : l[k]? = some (l[k]'(by rw [HL.out.1]; exact hlt)) := List.getElem?_eq_getElem _
      have hy : l2[k]? = some (l2[k]'(by rw [HL.out.2.1]; exact hlt)) := List.getElem?_eq_getElem _
      generalize l[k]'(by rw [HL.out.1]; exact hlt) = p at hx
      generalize l2[k]'(by rw [HL.out.2.1]; exact hlt) = q at hy
      have hpq : p.1 = q.1 := by
        have h1 : (l.map (·.1))[k]? = some p.1 := by rw [List.getElem?_map, hx]; rfl
        have h3 : (l2.map (·.1))[k]? = some q.1 := by rw [List.getElem?_map, hy]; rfl
        rw [HL.out.2.2] at h1
        exact Option.some.inj (h1.symm.trans h3)
      have hidx := fun W => h.idx hlt W
      have hidy := fun W => h2.idx hlt W
      have hr1 := h.below hb
      have hr2 := h2.below hb
      have hlx := fun b : Later wr => (hr1.below b.below).load hx
      have hly := fun b : Later wr => (hr2.below b.below).load hy
      have HSM := Lib.hid (fun b : Later wr => Same_rp hpq ((hr1.below b.below).each p (List.mem_of_getElem? hx)) ((hr2.below b.below).each q (List.mem_of_getElem? hy)))
      have hk' : (k : Int) < n := by omega
      clear hx hy hpq hr1 hr2
      go_wp2_with fail
      refine wp_region_plan (MPlan.reads [0, 1, 2, 3, 4, 5, 6, 7] (.one 8 (MPlan.reads [9] .fin))) (fun x => ∃ b : Later wr, x = b.at') (by kernel_rfl) (by kernel_rfl) (by kernel_rfl) (fun _ _ _ _ _ h => h) ⟨⟨wr.drew, (Below.refl _ _).drew⟩, rfl⟩ ?_
      iterate 3 (refine plan_read (o := ⟨_, _, _, _, _, _⟩) (by rfl) (by rfl) ?_; go_big_quiet_step (fail); refine wpQuiet_nil ?_)
      refine plan_load (o := ⟨_, _, _, _, _, _⟩) (by rfl) rfl (by rfl) _ rfl _ (fun w' hS => by obtain ⟨b, rfl⟩ := hS; exact hlx b) ?_
      simp only [Act.put, List.setIfInBounds_toArray, List.set_cons_succ, List.set_cons_zero]
      iterate 3 (refine plan_read (o := ⟨_, _, _, _, _, _⟩) (by rfl) (by rfl) ?_; go_big_quiet_step (fail); refine wpQuiet_nil ?_)
      refine plan_load (o := ⟨_, _, _, _, _, _⟩) (by rfl) rfl (by rfl) _ rfl _ (fun w' hS => by obtain ⟨b, rfl⟩ := hS; exact hly b) ?_
      simp only [Act.put, List.setIfInBounds_toArray, List.set_cons_succ, List.set_cons_zero]
      refine plan_one (o := ⟨_, _, _, _, _, _⟩) (by rfl) (fun K hK => ?_)
      go_wp2_with fail
      refine (HSM.out ⟨wr.drew, (Below.refl _ _).drew⟩).mono ?_
      rintro e w3 ⟨rfl, hb3⟩
      have hb3' : Below wr.heap.size wr w3 := ((Below.refl _ _).drew).trans hb3
      go_wp2_with fail
      refine hK _ _ ⟨⟨w3, hb3'⟩, rfl⟩ ?_
      clear hK
      refine plan_read (o := ⟨_, _, _, _, _, _⟩) (by rfl) (by rfl) ?_
      go_big_quiet_step (fail)
      refine wpQuiet_nil ?_
      refine plan_fin ?_
      have hb2 := hb.trans (hb3'.mono hb.size)
      clear hlx hly hidx hidy hb hlt hb3 hb3' HSM
      go_wp2_with fail
      go_roundw
      case rel => exact ⟨k + 1, by omega, by go_num, hb2⟩
      case measure => simp [intOf]; omega
    · obtain rfl : k = n := by omega
      go_wp2_with fail
      go_ret
      exact ⟨rfl, hb⟩

theorem feed_len : ∀ (l : Bs) (x : WSt), (feedW x l).1.length ≤ l.length
  | [], x => Nat.le_refl _
  | c :: l, x => by
    rw [feedW]
    split
    · simp
    · split
      · simp
      · have := feed_len l (wholeF (oneF x c).2).2
        have h2 : (wholeF (oneF x c).2).1.toList.length ≤ 1 := by cases (wholeF (oneF x c).2).1 <;> simp
        simp only [List.length_append, List.length_cons]
        omega
/-- Pieces, fed one behind the other. -/
structure AInv (w : World) (ll : List Row) (g : Nat) (wr : World) (j : Nat) (y : WSt) (m1 : WMem) (A : Option Addr) (n c : Nat) (l : List RP) : Prop where
  W : WireB wr w.heap.size g y m1
  ok : WOk y
  n4 : y.nx ≤ 4
  rq : Reqs wr w.heap.size A n c l
  ap : ∀ k ∈ reqB A l, ¬ m1.has g k
  bel : Below w.heap.size w wr
  eq : feedW newW (flat ll) = (l.map (·.1) ++ (feedW y (flat (ll.drop j))).1, (feedW y (flat (ll.drop j))).2)
theorem flat_cons {ll : List Row} {j : Nat} {r : Row} (h : ll[j]? = some r) : flat (ll.drop j) = r.l ++ flat (ll.drop (j + 1)) := by
  obtain ⟨h1, e1⟩ := List.getElem?_eq_some_iff.1 h
  rw [List.drop_eq_getElem_cons h1, e1]
  simp [flat]
theorem flat_le {ll : List Row} {r : Row} (h : r ∈ ll) : r.l.length ≤ (flat ll).length := by
  induction ll with
  | nil => cases h
  | cons a ll ih =>
    have e : flat (a :: ll) = a.l ++ flat ll := rfl
    rw [e, List.length_append]
    rcases List.mem_cons.1 h with rfl | h
    · omega
    · have := ih h
      omega
theorem ainv_len {w : World} {ll : List Row} {g : Nat} {wr : World} {j : Nat} {y : WSt} {m1 : WMem} {A : Option Addr} {n c : Nat} {l : List RP} (h : AInv w ll g wr j y m1 A n c l) : n ≤ (flat ll).length := by
  have h1 := feed_len (flat ll) newW
  rw [h.eq] at h1
  have h2 := h.rq.len
  simp only [List.length_append, List.length_map] at h1
  omega
theorem ainv_step {w : World} {ll : List Row} {g : Nat} {wr w2 w3 : World} {j : Nat} {y : WSt} {m1 m2 : WMem} {A A2 A3 : Option Addr} {n c n2 c2 c3 : Nat} {l l2 : List RP} {r : Row} (h : AInv w ll g wr j y m1 A n c l) (hr : ll[j]? = some r)
    (hW : WireB w2 w.heap.size g (feedW y r.l).2.1 m2) (hR : Reqs w2 w.heap.size A2 n2 c2 l2) (hl : l2.map (·.1) = (feedW y r.l).1) (hb : But (m1.has g) wr w2) (hm : ∀ k, m2.has g k → m1.has g k ∨ wr.heap.size ≤ k) (ha : ∀ k ∈ reqB A2 l2, ¬ m2.has g k ∧ (m1.has g k ∨ wr.heap.size ≤ k))
    (hg : w2.grownBy w3 (blk A)) (ho : Own w3 w.heap.size 40 5 A3 (n + n2) c3 (rqL l ++ rqL l2)) (hA : blk A3 = blk A ∨ blk A3 = some w2.heap.size) :
    Reqs w3 w.heap.size A3 (n + n2) c3 (l ++ l2) ∧ Below w.heap.size w w3 ∧ ((feedW y r.l).2.2 = 0 → AInv w ll g w3 (j + 1) (feedW y r.l).2.1 m2 A3 (n + n2) c3 (l ++ l2)) ∧ ((feedW y r.l).2.2 ≠ 0 → (feedW newW (flat ll)).1 = (l ++ l2).map (·.1) ∧ (feedW newW (flat ll)).2.2 = (feedW y r.l).2.2) := by
  have hin := h.rq.in_
  have hrq2 := h.rq.but hb (fun k hk => h.ap k hk)
  have hd : ∀ k ∈ reqB A l, k ∉ reqB A2 l2 := fun k hk hk2 => by
    rcases (ha k hk2).2 with h1 | h1
    · exact h.ap k hk h1
    · have := (hin k hk).2
      omega
  have hbase := Nat.le_trans h.W.ge (Nat.le_of_lt h.W.lt)
  have hrq := hrq2.append hR hd hg ho hA
  have hbel : Below w.heap.size w w3 := by
    have h1 : Below w.heap.size w w2 := h.bel.trans (hb.below (fun i hi => (h.W.in_ i hi).1) hbase)
    exact h1.grown hg h1.size (fun q hq => by
      have := h.rq.row.lt q (by rw [hq])
      exact this.1)
  have hap : ∀ k, m2.has g k → blk A ≠ some k := fun k hk e => by
    have hkA : k ∈ reqB A l := List.mem_append_left _ (blk_mem e)
    rcases hm k hk with h1 | h1
    · exact h.ap k hkA h1
    · have := (hin k hkA).2
      omega
  refine ⟨hrq, hbel, fun he => ?_, fun he => ?_⟩
  · have hk := feed_ok r.l y h.ok h.n4 he
    refine ⟨hW.keep fun k hk => hg.block k (hW.in_ k hk).2 (fun e => hap k hk e.symm), hk.1, hk.2, hrq, fun k hk hk2 => ?_, hbel, ?_⟩
    · rcases reqB_append (A2 := A2) hA k hk with h1 | h1 | h1
      · rcases hm k hk2 with h3 | h3
        · exact h.ap k h1 h3
        · have := (hin k h1).2
          omega
      · exact (ha k h1).1 hk2
      · have := (hW.in_ k hk2).2
        omega
    · rw [h.eq, flat_cons hr, feed_app _ _ _ he, List.map_append, hl, List.append_assoc]
  · rw [h.eq, flat_cons hr, feed_bad _ _ _ he, List.map_append, hl]
    exact ⟨rfl, rfl⟩

set_option maxRecDepth 20000 in
set_option maxHeartbeats 8000000 in
theorem all_any {w : World} (hmx : Mx w) {L : Option Addr} {m d : Nat} {ll : List Row} (h : Rows2 w L m d ll) (ht : (flat ll).length ≤ 1048576) (hll : ∀ r ∈ ll, ∀ k, blk r.A = some k → k < w.heap.size) :
    Calls Tryd.prog 7 #[.slice L m d] w fun e w' => ∃ A n c l, e = .returned (.tuple #[.slice A n c, .int .i64 (feedW newW (flat ll)).2.2]) ∧ Reqs w' w.heap.size A n c l ∧ l.map (·.1) = (feedW newW (flat ll)).1 ∧ Below w.heap.size w w' := by
  have hln := h.len
  have hmm : m ≤ maxLen := Nat.le_trans h.rd.le h.rd.max
  unfold maxLen at hmm
  have h1 := mx_size hmx
  go_enter Tryd.func7, Tryd.ntmps7
  go_wp2_with fail
  refine (New_any w).mono ?_
  rintro e w1 ⟨rfl, hW1, hb1⟩
  have hst : AInv w ll w.heap.size w1 0 newW ⟨none, 0, 0, none, 0, 0, none, none, 0, 0⟩ none 0 0 [] := ⟨hW1, newOk, by decide, Reqs.nil_ _ _, by simp [reqB, blk], hb1, by simp⟩
  have HST := Lib.hid hst
  clear hst hW1 hb1
  go_wp2_with fail
  go_loopw [5, 6] (fun o i wr => ∃ (j : Nat) (y : WSt) (m1 : WMem) (A : Option Addr) (n c : Nat) (l : List RP), j ≤ m ∧ o = .slice A n c ∧ i = .int .i64 j ∧ Hid (AInv w ll w.heap.size wr j y m1 A n c l)) (fun _ i _ => m - (intOf i).toNat)
  case atStart => exact ⟨0, newW, _, none, 0, 0, [], by omega, rfl, rfl, HST.out⟩
  case round =>
    obtain ⟨j, y, m1, A, n, c, l, hj, rfl, rfl, hI⟩ := hrel
    clear HST
    have hnl := ainv_len hI.out
    by_cases hlt : j < m
    · obtain ⟨r, hr, hidx, hcell, hrd, -⟩ := (h.below hI.out.bel).at (j : Int) j rfl hlt
      have hr' : Hid (ll[j]? = some r) := hr
      have hrl := flat_le (List.mem_of_getElem? hr'.out)
      have hrn : r.l.length = r.n := hrd.lenb
      have HF := Lib.hid (WFeed_any hI.out.W hI.out.ok hI.out.n4 (hmx.below hI.out.bel) h1 hrd (by omega) (fun k hk => by
        have h2 := hll r (List.mem_of_getElem? hr'.out) k hk
        exact ⟨Nat.lt_of_lt_of_le h2 hI.out.bel.size, fun h3 => by have := (hI.out.W.in_ k h3).1; omega⟩))
      have hfl := feed_len r.l y
      have hrow := fun w2 (hb : But (m1.has w.heap.size) wr w2) => (hI.out.rq.but hb (fun k hk => hI.out.ap k hk)).row
      have HROW := Lib.hid hrow
      obtain ⟨E, hE⟩ : ∃ E, (feedW y r.l).2.2 = E := ⟨_, rfl⟩
      have HE := Lib.hid hE
      have HFL := Lib.hid (Nat.le_trans hfl (Nat.le_trans hrl ht))
      have HBS := Lib.hid (Nat.le_trans hI.out.W.ge (Nat.le_of_lt hI.out.W.lt))
      unfold Fed at HF
      rw [hE] at HF
      clear hr hrd hln hrl hrow hE hfl
      go_wp2_with fail
      refine HF.out.mono ?_
      rintro e w2 ⟨A2, n2, c2, l2, m2, rfl, hW2, hR2, hl2, hb2, hm2, ha2⟩
      have hn2 : n2 ≤ 1048576 := by
        have h3 := hR2.len
        have h4 := congrArg List.length hl2
        have h5 := HFL.out
        rw [List.length_map] at h4
        omega
      have ho2 := HROW.out w2 hb2
      have hrd2 := hR2.row.rd
      have hbase : w.heap.size ≤ w2.heap.size := Nat.le_trans HBS.out hb2.size
      have HS := Lib.hid (fun w3 A3 c3 => ainv_step (w3 := w3) (A3 := A3) (c3 := c3) hI.out hr'.out hW2 hR2 hl2 hb2 hm2 ha2)
      clear hW2 hR2 hl2 hb2 hm2 ha2
      have hone := rqL_one l2
      by_cases hE0 : E = 0
      · subst hE0
        go_wp2_with (at_builtin; refine wpList_app rfl _ _ rfl eq_ ho2 rfl hrd2 rfl hone (by omega) (by unfold maxLen; omega) hbase ?_; intro A3 c3 w3 ho3 hg3 hq3; have HN := Lib.hid (HS.out w3 A3 c3 hg3 ho3 hq3); clear ho3; clear hg3; clear hq3)
        go_roundw
        case rel => exact ⟨j + 1, _, m2, A3, n + n2, c3, _, by omega, rfl, by go_num, HN.out.2.2.1 HE.out⟩
        case measure => simp [intOf]; omega
      · have e1 : (E != 0) = true := by simpa using hE0
        have HE0 := Lib.hid hE0
        clear hE0
        go_wp2_with (at_builtin; refine wpList_app rfl _ _ rfl eq_ ho2 rfl hrd2 rfl hone (by omega) (by unfold maxLen; omega) hbase ?_; intro A3 c3 w3 ho3 hg3 hq3; have HN := Lib.hid (HS.out w3 A3 c3 hg3 ho3 hq3); clear ho3; clear hg3; clear hq3)
        go_ret2
        obtain ⟨q1, q2⟩ := HN.out.2.2.2 (by rw [HE.out]; exact HE0.out)
        exact ⟨A3, n + n2, c3, l ++ l2, by rw [q2, HE.out]; rfl, HN.out.1, q1.symm, HN.out.2.1⟩
    · obtain rfl : j = m := by omega
      have he := hI.out.eq
      rw [List.drop_eq_nil_of_le (by omega)] at he
      have HE := Lib.hid he
      clear he hlt
      go_wp2_with fail
      go_ret2
      have e2 : feedW newW (flat ll) = (l.map (·.1) ++ (feedW y []).1, (feedW y []).2) := HE.out
      exact ⟨A, n, c, l, by rw [e2]; rfl, hI.out.rq, by rw [e2]; simp [feedW], hI.out.bel⟩

end Go.Proofs.YtckkmdigmecagaaDoor

/-
  The statement WirePieces.
-/
namespace Go.Proofs.YtckkmdigmecagaaDoor
open Go.RowKit

theorem wcut_blocks {W : World} {A : Option Addr} {n c : Nat} {l : List UInt8} (h : Rd W 1 A n c (l.map b8)) {r : Row} (h1 : 1 ≤ r.n) (h2 : r.n ≤ n) (h3 : blk r.A = blk A) : ∀ k, blk r.A = some k → k < W.heap.size := by
  intro k hk
  have hl := h.lenb
  obtain ⟨a, ha, hlt⟩ := h.lt (k := 0) (by simp; omega)
  rw [h3, ha] at hk
  simp [blk] at hk
  omega
theorem cut_all {W w w1 : World} {A : Option Addr} {n c : Nat} {l : List UInt8} (hmx : Mx w1) (h : Rd W 1 A n c (l.map b8)) (hn : n ≤ 16384) {L : Option Addr} {m d : Nat} {ll : List Row} (hWw : Below W.heap.size W w) (hbl : Below w.heap.size w w1) (ho : Own w1 w.heap.size 22 1 L m d (ll.map Row.val))
    (hE : ∀ r ∈ ll, Rd w 1 r.A r.n r.c (r.l.map b8) ∧ 1 ≤ r.n ∧ r.n ≤ n ∧ blk r.A = blk A) (hf : flat ll = l) :
    Calls Tryd.prog 7 #[.slice L m d] w1 fun e w' => ∃ A n c l', e = .returned (.tuple #[.slice A n c, .int .i64 (feedW newW l).2.2]) ∧ Reqs w' w1.heap.size A n c l' ∧ l'.map (·.1) = (feedW newW l).1 ∧ Below w1.heap.size w1 w' := by
  have hln := h.lenb
  have h2 := all_any hmx (L := L) (m := m) (d := d) (ll := ll) ⟨ho.rd, fun r hr => (hE r hr).1.below hbl⟩ (by rw [hf]; omega) (fun r hr k hk => by
    have h3 := wcut_blocks h (hE r hr).2.1 (hE r hr).2.2.1 (hE r hr).2.2.2 k hk
    have := hWw.size
    have := hbl.size
    omega)
  rw [hf] at h2
  exact h2

set_option maxRecDepth 20000 in
set_option maxHeartbeats 16000000 in
theorem wirePieces_walk {w : World} (hm : Mx w) (A : Option Addr) (n c : Nat) (l : List UInt8) (h : Rd w 1 A n c (l.map b8)) (A2 : Option Addr) (n2 c2 : Nat) (zs : List Int) (h2 : RdI w A2 n2 c2 zs) (A3 : Option Addr) (n3 c3 : Nat) (ys : List Int) (h3 : RdI w A3 n3 c3 ys) :
    Calls Tryd.prog 3 #[.slice A n c, .slice A2 n2 c2, .slice A3 n3 c3] w fun e w' => e = .returned (.bool true) ∧ Below w.heap.size w w' := by
  have HH := Lib.hid h
  have H2 := Lib.hid h2
  have H3 := Lib.hid h3
  have HBG := Lib.hid (wbegun_any w hm (mx_size hm))
  have HM := Lib.hid (fun W (hb : Below w.heap.size w W) => hm.below hb)
  clear h h2 h3 hm
  by_cases hb1 : (8192 : Int) < n
  · go_enter Tryd.func3, Tryd.ntmps3
    go_wp2_with fail
    refine HBG.out.mono ?_
    rintro e w1 ⟨rfl, hbl1⟩
    go_wp2_with fail
    go_ret
    exact ⟨rfl, hbl1⟩
  by_cases hb2 : (200 : Int) < n2
  · have hb1' : decide ((8192 : Int) < n) = false := by simpa using hb1
    clear hb1
    go_enter Tryd.func3, Tryd.ntmps3
    go_wp2_with fail
    refine HBG.out.mono ?_
    rintro e w1 ⟨rfl, hbl1⟩
    go_wp2_with fail
    go_ret
    exact ⟨rfl, hbl1⟩
  by_cases hb3 : (200 : Int) < n3
  · have hb1' : decide ((8192 : Int) < n) = false := by simpa using hb1
    have hb2' : decide ((200 : Int) < n2) = false := by simpa using hb2
    clear hb1 hb2
    go_enter Tryd.func3, Tryd.ntmps3
    go_wp2_with fail
    refine HBG.out.mono ?_
    rintro e w1 ⟨rfl, hbl1⟩
    go_wp2_with fail
    go_ret
    exact ⟨rfl, hbl1⟩
  have hb1' : decide ((8192 : Int) < n) = false := by simpa using hb1
  have hb2' : decide ((200 : Int) < n2) = false := by simpa using hb2
  have hb3' : decide ((200 : Int) < n3) = false := by simpa using hb3
  have hn : n ≤ 8192 := by omega
  have hn2 : n2 ≤ 200 := by omega
  have hn3 : n3 ≤ 200 := by omega
  obtain ⟨E, hE⟩ : ∃ E, (feedW newW l).2.2 = E := ⟨_, rfl⟩
  have HE := Lib.hid hE
  clear hb1 hb2 hb3 hE
  go_enter Tryd.func3, Tryd.ntmps3
  go_wp2_with fail
  refine HBG.out.mono ?_
  rintro e w1 ⟨rfl, hB1⟩
  go_wp2_with fail
  refine (CutL_any A n c l (HH.out.below hB1) A2 n2 c2 zs (H2.out.below hB1) (by omega) (by omega)).mono ?_
  rintro e w2 ⟨L2, m2, d2, ll2, rfl, ho2, hE2, hf2, hm2, hbl2⟩
  have hB2 := hB1.trans (hbl2.mono hB1.size)
  have HP2 := Lib.hid (cut_all (HM.out _ hB2) HH.out (by omega) hB1 hbl2 ho2 hE2 hf2)
  rw [HE.out] at HP2
  clear ho2 hE2 hf2 hB1 hbl2
  go_wp2_with fail
  refine HP2.out.mono ?_
  rintro e w3 ⟨A5, n5, c5, l5, rfl, hR3, hl5, hbl3⟩
  have hB3 := hB2.trans (hbl3.mono hB2.size)
  clear HP2 hbl3 hB2
  go_wp2_with fail
  refine (CutL_any A n c l (HH.out.below hB3) A3 n3 c3 ys (H3.out.below hB3) (by omega) (by omega)).mono ?_
  rintro e w4 ⟨L4, m4, d4, ll4, rfl, ho4, hE4, hf4, hm4, hbl4⟩
  have hB4 := hB3.trans (hbl4.mono hB3.size)
  have HP4 := Lib.hid (cut_all (HM.out _ hB4) HH.out (by omega) hB3 hbl4 ho4 hE4 hf4)
  rw [HE.out] at HP4
  have hr4 := hR3.rd.below hbl4
  clear ho4 hE4 hf4 hB3 hbl4 hR3
  go_wp2_with fail
  refine HP4.out.mono ?_
  rintro e w5 ⟨A7, n7, c7, l7, rfl, hR5, hl7, hbl5⟩
  have hB5 := hB4.trans (hbl5.mono hB4.size)
  have HS := Lib.hid (same_any (hr4.below hbl5) hR5.rd (hl5.trans hl7.symm))
  clear HP4 hbl5 hB4 hR5 hl5 hl7 hr4
  go_wp2_with fail
  refine HS.out.mono ?_
  rintro e w6 ⟨rfl, hbl6⟩
  have hB6 := hB5.trans (hbl6.mono hB5.size)
  clear HS hbl6 hB5
  go_wp2_with fail
  go_ret
  exact ⟨rfl, hB6⟩

end Go.Proofs.YtckkmdigmecagaaDoor

/-
  Plain: lines of so many bytes, so many fields.
-/
namespace Go.Proofs.YtckkmdigmecagaaDoor
open Go.RowKit

def s0W : Bs := [71, 69, 84, 32, 47, 32, 72, 84, 84, 80, 47, 49, 46, 49, 13, 10, 72, 111, 115, 116, 58, 32, 97, 13, 10]
def xyW : Bs := [120, 58, 121, 13, 10]
def bxW (k : Nat) : Bs := (List.replicate k xyW).flatten
def lnW (n : Nat) : Bs := 97 :: 58 :: List.replicate (n - 2) 97
def hoF : Fl.Fd := ([104, 111, 115, 116], [97])
def x1W : WSt := ⟨2, [], [71, 69, 84], [47], [hoF], true, none⟩
theorem bxW_succ (k : Nat) : bxW (k + 1) = bxW k ++ xyW := by
  unfold bxW
  rw [List.replicate_succ', List.flatten_append]
  simp
theorem bxW_len : ∀ k, (bxW k).length = 5 * k
  | 0 => rfl
  | k + 1 => by
    rw [bxW_succ, List.length_append, bxW_len k]
    have : xyW.length = 5 := rfl
    omega
theorem lnW_len {n : Nat} (h : 2 ≤ n) : (lnW n).length = n := by
  simp [lnW]
  omega
set_option maxRecDepth 100000 in
theorem bound_e0 : ∀ p : Fin 12, (feedW newW (s0W ++ bxW (24 + p.1) ++ [13, 10])).2.2 = if 32 < 25 + p.1 then 2 else 0 := by decide +kernel
set_option maxRecDepth 100000 in
theorem feed_s0 : feedW newW s0W = ([], x1W, 0) := by rfl
theorem lnW_no (n : Nat) : (10 : UInt8) ∉ lnW n := by
  unfold lnW
  intro h
  rcases List.mem_cons.1 h with h | h
  · cases h
  · rcases List.mem_cons.1 h with h | h
    · cases h
    · have := List.eq_of_mem_replicate h
      cases this
theorem all_rep {p : UInt8 → Bool} {x : UInt8} (h : p x = true) : ∀ n, (List.replicate n x).all p = true := by
  intro n
  rw [List.all_eq_true]
  intro y hy
  rw [List.eq_of_mem_replicate hy]
  exact h
theorem line_lnW (n : Nat) : (Fl.lineR (lnW n)).1 = [97] ∧ (Fl.lineR (lnW n)).2.2 = 0 := by
  have hc : cut1 58 (lnW n) = ([97], List.replicate (n - 2) 97, true) := rfl
  unfold Fl.lineR
  rw [hc]
  dsimp only
  rw [if_pos ⟨rfl, by simp, by rfl, all_rep (by rfl) _⟩]
  exact ⟨rfl, rfl⟩
theorem text_lnW (n : Nat) : textF (lnW n ++ [13, 10]) = some (lnW n) := by
  unfold textF
  have h1 : (lnW n ++ [13, 10]).length - 2 = (lnW n).length := by simp
  rw [h1, List.drop_left, List.take_left]
  rfl
theorem empty_two (v : Bs) : emptyF [hoF, ([97], v)] = (0, some (stN 0)) := by rfl
theorem closes_two (v : Bs) : closesF [hoF, ([97], v)] = false := by rfl
theorem bound_f {n : Nat} (h1 : 2 ≤ n) : (feedW newW (s0W ++ (lnW n ++ [13, 10, 13, 10]))).2.2 = if 1024 < n + 2 then 2 else 0 := by
  have hl := lnW_len h1
  rw [feed_app s0W _ newW (by rw [feed_s0]), feed_s0]
  dsimp only
  by_cases h2 : 1024 < n + 2
  · rw [if_pos h2, feed_long _ x1W rfl (by decide) (by decide) (fun hm => ?_) (by simp [x1W]; omega)]
    have hm2 : (10 : UInt8) ∈ (lnW n ++ [13]).take 1024 := by
      have e : (lnW n ++ [13, 10, 13, 10]) = (lnW n ++ [13]) ++ [10, 13, 10] := by simp
      rw [e, show 1024 - x1W.ln.length = 1024 from rfl, List.take_append_of_le_length (by simp; omega)] at hm
      exact hm
    have hm3 := List.mem_of_mem_take hm2
    rcases List.mem_append.1 hm3 with h4 | h4
    · exact lnW_no n h4
    · cases h4 with
      | tail _ h5 => cases h5
  · rw [if_neg h2]
    have e1 : (lnW n ++ [13, 10, 13, 10]) = (lnW n ++ [13, 10]) ++ [13, 10] := by simp
    have e2 : (lnW n ++ [13, 10, 13, 10])[n + 1]? = some 10 := by
      rw [List.getElem?_append_right (by omega), hl, show n + 1 - n = 1 by omega]
      rfl
    have e3 : (lnW n ++ [13, 10, 13, 10]).take (n + 1) = lnW n ++ [13] := by
      rw [show (lnW n ++ [13, 10, 13, 10]) = (lnW n ++ [13]) ++ [10, 13, 10] by simp, List.take_append_of_le_length (by simp; omega), List.take_of_length_le (by simp; omega)]
    rw [feed_line _ x1W (n + 1) rfl (by decide) e2 (by
      rw [e3]
      intro hm
      rcases List.mem_append.1 hm with h4 | h4
      · exact lnW_no n h4
      · cases h4 with
        | tail _ h5 => cases h5) (by simp [x1W]; omega)]
    rw [e1, List.take_append_of_le_length (by simp; omega), List.take_of_length_le (by simp; omega), List.drop_append, List.drop_eq_nil_of_le (by simp; omega), List.length_append, hl]
    have hne : lnW n ≠ [] := by simp [lnW]
    obtain ⟨q1, q2⟩ := line_lnW n
    have hj : judgeF x1W (x1W.ln ++ (lnW n ++ [13, 10])) = (0, { x1W with fs := [hoF, ([97], (Fl.lineR (lnW n)).2.1)] }) := by
      unfold judgeF
      rw [show x1W.ln ++ (lnW n ++ [13, 10]) = lnW n ++ [13, 10] from rfl, text_lnW]
      dsimp only
      rw [if_neg (by decide), if_neg hne, if_neg (by decide), q1, q2]
      rfl
    rw [hj]
    generalize (Fl.lineR (lnW n)).2.1 = v
    rw [show ([] : Bs) ++ List.drop (n + 1 + 1 - (n + ([13, 10] : Bs).length)) [13, 10] = [13, 10] by simp]
    rfl
theorem bound_g {n : Nat} (h1 : 1000 ≤ n) : (feedW newW ((lnW n).take (min n 1023))).2.2 = 0 := by
  rw [feed_open _ newW rfl (by decide) (fun hm => lnW_no n (List.mem_of_mem_take hm)) (by simp [newW]; omega)]

end Go.Proofs.YtckkmdigmecagaaDoor

/-
  The statement WireBounds.
-/
namespace Go.Proofs.YtckkmdigmecagaaDoor
open Go.RowKit

theorem str_app2 (a b : Bs) : ((⟨a.toArray⟩ : ByteArray) ++ ⟨b.toArray⟩) = ⟨(a ++ b).toArray⟩ := by
  apply ByteArray.ext
  simp [ByteArray.data_append]
/-- A new wire that is fed: only the error matters. -/
theorem feed_err_any {w : World} (hm : Mx w) {B : Option Addr} {nB cB : Nat} {bl : Bs} {base g : Nat} (hW : WireB w base g newW ⟨none, 0, 0, none, 0, 0, none, none, 0, 0⟩) (h0 : 1 ≤ base) (hb : Rd w 1 B nB cB (bl.map b8)) (hn : nB ≤ 1048576) (hB : ∀ k, blk B = some k → k < w.heap.size ∧ k ≠ g) {E : Int} (hE : (feedW newW bl).2.2 = E) :
    Calls Tryd.prog 12 #[.pointer (some ⟨g, 0, none⟩), .slice B nB cB] w fun e w' => ∃ A n c, e = .returned (.tuple #[.slice A n c, .int .i64 E]) ∧ But (· = g) w w' := by
  refine (WFeed_any hW newOk (by decide) hm h0 hb hn (fun k hk => ⟨(hB k hk).1, fun h => ?_⟩)).mono ?_
  · rcases h with h1 | h1 | h1 | h1 | h1
    · exact (hB k hk).2 h1
    · simp [blk] at h1
    · simp [blk] at h1
    · cases h1
    · simp [blk] at h1
  · rintro e w' ⟨A, n, c, l, m', rfl, -, -, -, hbt, -, -⟩
    rw [hE]
    refine ⟨A, n, c, rfl, hbt.os, hbt.tape, hbt.output, hbt.size, fun k hk hkg => hbt.block k hk (fun h => ?_)⟩
    rcases h with h1 | h1 | h1 | h1 | h1
    · exact hkg h1
    · simp [blk] at h1
    · simp [blk] at h1
    · cases h1
    · simp [blk] at h1
theorem madeW_list (n : Nat) : (madeCells (Value.int .u8 0).cells (n * 1)).toList = (List.replicate n (0 : UInt8)).map b8 := by
  rw [Nat.mul_one, madeCells_one _ _ rfl, List.map_replicate]
  rfl
theorem rep_set (k N : Nat) (h : k < N) : (List.replicate k (97 : UInt8) ++ List.replicate (N - k) 0).set k 97 = List.replicate (k + 1) 97 ++ List.replicate (N - (k + 1)) 0 := by
  rw [List.set_append, if_neg (by simp), List.length_replicate, Nat.sub_self]
  rw [show N - k = (N - (k + 1)) + 1 by omega, List.replicate_succ, List.set_cons_zero, List.replicate_succ', List.append_assoc]
  rfl
theorem lnW_set {N : Nat} (h : 2 ≤ N) : (List.replicate N (97 : UInt8)).set 1 58 = lnW N := by
  unfold lnW
  obtain ⟨m, rfl⟩ : ∃ m, N = m + 2 := ⟨N - 2, by omega⟩
  rfl

set_option maxRecDepth 20000 in
set_option maxHeartbeats 16000000 in
theorem wireBounds_walk {w : World} (hm : Mx w) (a : Int) (ha0 : -9223372036854775808 ≤ a) (ha1 : a ≤ 9223372036854775807) (b : Int) (hb0 : -9223372036854775808 ≤ b) (hb1 : b ≤ 9223372036854775807) :
    Calls Tryd.prog 4 #[.int .i64 a, .int .i64 b] w fun e w' => e = .returned (.bool true) ∧ Below w.heap.size w w' := by
  have HBG := Lib.hid (wbegun_any w hm (mx_size hm))
  have HM := Lib.hid (fun W (hb : Below w.heap.size w W) => hm.below hb)
  have HP1 := Lib.hid (fun W => Place_any a 40 W ha0 ha1 (by omega))
  have HP2 := Lib.hid (fun W => Place_any b 12 W hb0 hb1 (by omega))
  have hp1 := placeP_lt a 40 (by omega)
  have hp2 := placeP_lt b 12 (by omega)
  obtain ⟨p, hp⟩ : ∃ p, placeP a 40 = p := ⟨_, rfl⟩
  obtain ⟨f, hf⟩ : ∃ f, placeP b 12 = f := ⟨_, rfl⟩
  rw [hp] at HP1 hp1
  rw [hf] at HP2 hp2
  have hbe := bound_e0 ⟨f, hp2⟩
  have hbf := bound_f (n := 1000 + p) (by omega)
  have hbg := bound_g (n := 1000 + p) (by omega)
  have hs1 := mx_size hm
  obtain ⟨N, hN⟩ : ∃ N, 1000 + p = N := ⟨_, rfl⟩
  obtain ⟨K, hK⟩ : ∃ K, 25 + f = K := ⟨_, rfl⟩
  have wN : IntKind.i64.wrap (1000 + (p : Int)) = (N : Int) := by rw [IntWalk.i64_in _ (by omega)]; omega
  have wK : IntKind.i64.wrap (25 + (f : Int)) = (K : Int) := by rw [IntWalk.i64_in _ (by omega)]; omega
  have hN0 : 1000 ≤ N ∧ N ≤ 1039 := by omega
  have hK0 : 25 ≤ K ∧ K ≤ 36 := by omega
  rw [hN] at hbf hbg
  dsimp only at hbe
  rw [hK, show 24 + f = K - 1 by omega] at hbe
  have HE := Lib.hid hbe
  have HF := Lib.hid hbf
  have HG := Lib.hid hbg
  clear hm ha0 ha1 hb0 hb1 hp hf hbe hbf hbg hN hK
  go_enter Tryd.func4, Tryd.ntmps4
  go_wp2_with fail
  refine HBG.out.mono ?_
  rintro e w1 ⟨rfl, hB1⟩
  go_wp2_with fail
  refine (HP1.out w1).mono ?_
  rintro e w2 ⟨rfl, rfl⟩
  go_wp2_with fail
  refine (HP2.out w1).mono ?_
  rintro e w2 ⟨rfl, rfl⟩
  have hsz1 := hB1.size
  clear HP1 HP2 hp1 hp2
  go_wp2_with (at_make; refine wpList_mk (base := w.heap.size) rfl _ _ rfl eb rfl rfl N N (by first | rfl | exact wN) (by first | rfl | exact wN) (Nat.le_refl _) (by omega) (by unfold maxLen; omega) hsz1 ?_; intro w2 ho2 hg2 hz2)
  rw [madeW_list] at ho2
  have hB2 : Below w.heap.size w w2 := hB1.grown hg2 hsz1 (fun g hg => by cases hg)
  clear hg2 hz2 wN wK
  generalize (some (⟨w1.heap.size, 0, none⟩ : Addr)) = A at ho2 ⊢
  have HO2 := Lib.hid ho2
  clear ho2
  go_loopw [6] (fun i wr => ∃ k : Nat, k ≤ N ∧ i = .int .i64 k ∧ Hid (Own wr w.heap.size 5 1 A N N ((List.replicate k (97 : UInt8) ++ List.replicate (N - k) (0 : UInt8)).map b8)) ∧ Below w.heap.size w wr) (fun i _ => N - (intOf i).toNat)
  case atStart => exact ⟨0, by omega, rfl, by simpa [Hid] using HO2.out, hB2⟩
  case round =>
    obtain ⟨k, hk, rfl, ho, hb⟩ := hrel
    clear HO2 hB2 hB1 hsz1
    have hN1 := hN0.2
    by_cases hkn : k < N
    · have hcell := ho.out.rd.cell k (b8 0) (by
        rw [List.map_append, List.getElem?_append_right (by simp), List.length_map, List.length_replicate, Nat.sub_self, show N - k = (N - k - 1) + 1 by omega, List.replicate_succ]
        rfl)
      have hidx := run_index_rd (P := Tryd.prog) (A := A) (n := N) (c := N) eb ho.out.rd.nil ho.out.rd.le k hkn
      rw [Nat.mul_one] at hidx
      have hfr := ho.out.free (k := k) hkn
      have hst := ho.out.store (k := k) hkn (b8 97)
      have hbs := below_store hb ho.out (k := k) hkn (b8 97)
      rw [← List.map_set, rep_set k N hkn] at hst
      have HST := Lib.hid hst
      have HBS := Lib.hid hbs
      have hk' : (k : Int) < N := by omega
      unfold b8 at hcell
      clear hst hbs hb hkn
      go_wp2_with fail
      go_roundw
      case rel => exact ⟨k + 1, by omega, by go_num, HST.out, HBS.out⟩
      case measure => simp [intOf]; omega
    · obtain rfl : k = N := by omega
      have ho' : Own wr w.heap.size 5 1 A k k ((List.replicate k (97 : UInt8)).map b8) := by simpa using ho.out
      have hcell := ho'.rd.cell 1 (b8 97) (by
        rw [List.getElem?_map, List.getElem?_replicate, if_pos (by omega)]
        rfl)
      have hidx := run_index_rd (P := Tryd.prog) (A := A) (n := k) (c := k) eb ho'.rd.nil ho'.rd.le 1 (by omega)
      rw [Nat.mul_one, show ((1 : Nat) : Int) = 1 from rfl] at hidx
      have hfr := ho'.free (k := 1) (by omega)
      have hst := ho'.store (k := 1) (by omega) (b8 58)
      have hbs := below_store hb ho' (k := 1) (by omega) (b8 58)
      rw [← List.map_set, lnW_set (by omega)] at hst
      have HST := Lib.hid hst
      have HBS := Lib.hid hbs
      unfold b8 at hcell
      clear hst hbs hb hkn ho ho'
      go_wp2_with fail
      obtain ⟨w3, hw3⟩ : ∃ W, wr.setCell (at_ A 1) (.int .u8 58) = W := ⟨_, rfl⟩
      have hst : Own w3 w.heap.size 5 1 A k k ((lnW k).map b8) := by
        rw [← hw3]
        exact HST.out
      have hb3 : Below w.heap.size w w3 := by
        rw [← hw3]
        exact HBS.out
      rw [hw3]
      clear hw3 hcell hidx hfr HST HBS
      have HO := Lib.hid hst
      clear hst
      go_loopw [7, 8] (fun s i wq => ∃ j : Nat, j + 1 ≤ K ∧ s = .string ⟨(s0W ++ bxW j).toArray⟩ ∧ i = .int .i64 ((j + 1 : Nat) : Int) ∧ w3 = wq) (fun _ i _ => K - (intOf i).toNat)
      case atStart => exact ⟨0, by omega, rfl, rfl, rfl⟩
      case round =>
        obtain ⟨j, hj, rfl, rfl, rfl⟩ := hrel
        have hz : (⟨(s0W ++ bxW j).toArray⟩ : ByteArray).size = 25 + 5 * j := by
          rw [size_mk, List.length_append, bxW_len]
          rfl
        by_cases hjk : j + 1 < K
        · have hj' : ((j + 1 : Nat) : Int) < K := by omega
          have hj36 : j ≤ 36 := by omega
          clear hjk
          go_wp2_with fail
          go_roundw
          case rel =>
            refine ⟨j + 1, by omega, ?_, by go_num, by trivial⟩
            congr 1
            exact (str_app2 _ xyW).trans (by rw [List.append_assoc, ← bxW_succ])
          case measure => simp [intOf]; omega
        · obtain rfl : K = j + 1 := by omega
          have hz2 : (⟨(s0W ++ (bxW j ++ [13, 10])).toArray⟩ : ByteArray).size = 27 + 5 * j := by
            rw [size_mk, List.length_append, List.length_append, bxW_len]
            show 25 + (5 * j + 2) = _
            omega
          have hj36 : j ≤ 36 := by omega
          rw [List.append_assoc] at HE
          obtain ⟨E1, hE1⟩ : ∃ E, (feedW newW (s0W ++ (bxW j ++ [13, 10]))).2.2 = E := ⟨_, rfl⟩
          obtain ⟨E2, hE2⟩ : ∃ E, (feedW newW (s0W ++ (lnW k ++ [13, 10, 13, 10]))).2.2 = E := ⟨_, rfl⟩
          have HE1 := Lib.hid hE1
          have HE2 := Lib.hid hE2
          clear hE1 hE2 hjk
          go_wp2_with fail
          refine (New_any w3).mono ?_
          rintro e w4 ⟨rfl, hW4, hb4⟩
          have hB4 := hb3.trans (hb4.mono hb3.size)
          have hlt4 := hW4.lt
          have HFE := Lib.hid (fun w5 c5 (hb5 : Below w4.heap.size w4 w5) (ho5 : Own w5 w4.heap.size 5 1 (some ⟨w4.heap.size, 0, none⟩) (27 + 5 * j) c5 ((s0W ++ (bxW j ++ [13, 10])).map b8)) => feed_err_any (HM.out _ (hB4.trans (hb5.mono hB4.size))) (hW4.below hb5) (Nat.le_trans hs1 hb3.size) ho5.rd (by omega) (fun k hk => by
            have h1 := ho5.lt k hk
            omega) HE1.out)
          have HO4 := Lib.hid (HO.out.below (hb4.mono (Nat.le_refl _)))
          have HOL := Lib.hid (fun q (hq : blk A = some q) => (HO.out.lt q hq).2)
          have hlt3 : w3.heap.size < w4.heap.size := hlt4
          have hsz3 := hb3.size
          clear hW4 hb4 hb3 HO hlt4
          go_wp2_with (refine wpList_s2b rfl _ rfl Tryd.underlying9 Tryd.underlying22 Tryd.underlying5 ⟨(s0W ++ (bxW j ++ [13, 10])).toArray⟩ rfl (by rw [hz2]; omega) ?_; intro c5 w5 ho5 hb5; rw [hz2] at ho5 ⊢)
          refine (HFE.out w5 c5 hb5 (by simpa using ho5)).mono ?_
          rintro e w6 ⟨A6, n6, c6, rfl, hbt⟩
          have hB6 : Below w.heap.size w w6 := (hB4.trans (hb5.mono hB4.size)).trans (hbt.below (fun i hi => by omega) (by have := hb5.size; omega))
          have ho6 : Hid (Own w6 w.heap.size 5 1 A k k ((lnW k).map b8)) := (HO4.out.below hb5).but hbt (fun q hq => by
            have h1 := HOL.out q hq
            omega)
          have hw46 : w3.heap.size < w6.heap.size := by
            have := hbt.size
            have := hb5.size
            omega
          clear HFE HO4 hbt hB4 hb5 ho5
          have HB6 := Lib.hid hB6
          have hsz6 := hB6.size
          clear hB6
          go_upto_region 16 with fail
          go_cut [11, 12] from 50 to 59 (fun lv ev wx => ∃ (A7 : Option Addr) (n7 c7 : Nat), lv = .slice A7 n7 c7 ∧ ev = .int .i64 E2 ∧ Below w6.heap.size w6 wx)
          case first =>
            have hst : ∀ x : Later w6, (convert 22 9 (.slice A k k)).run Tryd.prog x.at' = .ok (.string ⟨(lnW k).toArray⟩) x.at' := fun x => run_str_rd (P := Tryd.prog) (dst := 9) eb Tryd.underlying5 Tryd.underlying9 (ho6.out.below x.below).rd
            have hzl : (⟨(lnW k).toArray⟩ : ByteArray).size = k := by rw [size_mk, lnW_len (by omega)]
            have hz4 : (⟨(s0W ++ (lnW k ++ [13, 10, 13, 10])).toArray⟩ : ByteArray).size = 29 + k := by
              rw [size_mk, List.length_append, List.length_append, lnW_len (by omega)]
              show 25 + (k + 4) = _
              omega
            have HFE := Lib.hid (fun w7 g c7 (hm7 : Mx w7) (B : Option Addr) (hW : WireB w7 g g newW ⟨none, 0, 0, none, 0, 0, none, none, 0, 0⟩) (h1 : 1 ≤ g) (hr : Rd w7 1 B (29 + k) c7 ((s0W ++ (lnW k ++ [13, 10, 13, 10])).map b8)) (hB : ∀ q, blk B = some q → q < w7.heap.size ∧ q ≠ g) => feed_err_any hm7 hW h1 hr (by omega) hB HE2.out)
            have HDR : Hid (Below w6.heap.size w6 w6.drew) := (Below.refl _ _).drew
            clear HE HF HG HE1 HE2
            refine wp_region_plan (MPlan.reads [1, 2, 3, 4] (.two 0 5 (.one 5 (.one 6 (MPlan.reads [7, 8, 9, 10, 11] .fin))) (.one 0 (.one 6 (MPlan.reads [7, 8, 9, 10, 11] .fin))))) (fun x => ∃ b : Later w6, x = b.at') (by kernel_rfl) (by kernel_rfl) (by kernel_rfl) (fun _ _ _ _ _ h => h) ⟨⟨w6.drew, (Below.refl _ _).drew⟩, rfl⟩ ?_
            iterate 2 (refine plan_read (o := ⟨_, _, _, _, _, _⟩) (by rfl) (by rfl) ?_; go_big_quiet_step (fail); refine wpQuiet_nil ?_)
            refine plan_run (o := ⟨_, _, _, _, _, _⟩) (by rfl) (by rfl) (.string ⟨(s0W ++ lnW k).toArray⟩) (fun w' _ => by
              go_simp
              refine (if_neg ?_).trans (congrArg (fun s => Result.ok (Next.value (Value.string s)) w') (str_app2 s0W (lnW k)))
              omega) ?_
            simp only [Act.put, List.setIfInBounds_toArray, List.set_cons_succ, List.set_cons_zero]
            refine plan_run (o := ⟨_, _, _, _, _, _⟩) (by rfl) (by rfl) (.string ⟨(s0W ++ (lnW k ++ [13, 10, 13, 10])).toArray⟩) (fun w' _ => by
              go_simp
              have h1 : (lnW k).length = k := lnW_len (by omega)
              have h2 : s0W.length = 25 := rfl
              refine (if_neg ?_).trans (congrArg (fun s => Result.ok (Next.value (Value.string s)) w') ((str_app2 (s0W ++ lnW k) [13, 10, 13, 10]).trans (by rw [List.append_assoc])))
              omega) ?_
            simp only [Act.put, List.setIfInBounds_toArray, List.set_cons_succ, List.set_cons_zero]
            refine plan_two (oi := ⟨_, _, _, _, _, _⟩) (oj := ⟨_, _, _, _, _, _⟩) (by rfl) (by rfl) (fun KK hKK => ?_) (fun KK hKK => ?_)
            · go_wp2_with fail
              refine (New_any _).mono ?_
              rintro e w7 ⟨rfl, hW7, hb7⟩
              have hB7 := HDR.out.trans hb7
              have HW7 := Lib.hid hW7
              have hlt7 := hW7.lt
              clear hW7 hb7
              go_wp2_with fail
              refine hKK _ _ ⟨⟨w7, hB7⟩, rfl⟩ ?_
              clear hKK
              refine plan_one (o := ⟨_, _, _, _, _, _⟩) (by rfl) (fun KK hKK => ?_)
              go_wp2_with (refine wpList_s2b rfl _ rfl Tryd.underlying9 Tryd.underlying22 Tryd.underlying5 ⟨(s0W ++ (lnW k ++ [13, 10, 13, 10])).toArray⟩ rfl (by rw [hz4]; omega) ?_; intro c8 w8 ho8 hb8; rw [hz4] at ho8 ⊢)
              have hB8 := hB7.trans (hb8.mono hB7.size)
              refine hKK _ _ ⟨⟨w8, hB8⟩, rfl⟩ ?_
              clear hKK
              have HW8 := Lib.hid (HW7.out.below hb8)
              have HO8 := Lib.hid ho8
              have hsz8 := hb8.size
              clear HW7 ho8 hb8
              refine plan_one (o := ⟨_, _, _, _, _, _⟩) (by rfl) (fun KK hKK => ?_)
              go_wp2_with fail
              refine (HFE.out w8 _ c8 (HM.out _ (HB6.out.trans (hB8.mono HB6.out.size))) _ HW8.out (by simp; omega) HO8.out.rd (fun q hq => by
                have h1 := HO8.out.lt q hq
                omega)).mono ?_
              rintro e w9 ⟨A9, n9, c9, rfl, hbt⟩
              have hB9 : Below w6.heap.size w6 w9 := hB8.trans (hbt.below (fun i hi => by subst hi; simp) hB8.size)
              go_wp2_with fail
              refine hKK _ _ ⟨⟨w9, hB9⟩, rfl⟩ ?_
              clear hKK
              iterate 5 (refine plan_read (o := ⟨_, _, _, _, _, _⟩) (by rfl) (by rfl) ?_; go_big_quiet_step (fail); refine wpQuiet_nil ?_)
              refine plan_fin ?_
              go_wp2_with fail
              go_meet
              exact ⟨A9, n9, c9, rfl, rfl, hB9⟩
            · go_wp2_with (refine wpList_s2b rfl _ rfl Tryd.underlying9 Tryd.underlying22 Tryd.underlying5 ⟨(s0W ++ (lnW k ++ [13, 10, 13, 10])).toArray⟩ rfl (by rw [hz4]; omega) ?_; intro c8 w8 ho8 hb8; rw [hz4] at ho8 ⊢)
              have hB8 := HDR.out.trans hb8
              refine hKK _ _ ⟨⟨w8, hB8⟩, rfl⟩ ?_
              clear hKK
              refine plan_one (o := ⟨_, _, _, _, _, _⟩) (by rfl) (fun KK hKK => ?_)
              go_wp2_with fail
              refine (New_any _).mono ?_
              rintro e w7 ⟨rfl, hW7, hb7⟩
              have hB7 := hB8.trans (hb7.mono hB8.size)
              have HO7 := Lib.hid (ho8.below hb7)
              have HOL7 := Lib.hid (fun q hq => ho8.lt q hq)
              have HW7 := Lib.hid hW7
              have hlt7 := hW7.lt
              have hsz8 := hb8.size
              clear hW7 hb7 ho8 hb8
              go_wp2_with fail
              refine hKK _ _ ⟨⟨w7, hB7⟩, rfl⟩ ?_
              clear hKK
              refine plan_one (o := ⟨_, _, _, _, _, _⟩) (by rfl) (fun KK hKK => ?_)
              go_wp2_with fail
              refine (HFE.out w7 _ c8 (HM.out _ (HB6.out.trans (hB7.mono HB6.out.size))) _ HW7.out (by have := hB8.size; omega) HO7.out.rd (fun q hq => by
                have h1 := HOL7.out q hq
                omega)).mono ?_
              rintro e w9 ⟨A9, n9, c9, rfl, hbt⟩
              have hB9 : Below w6.heap.size w6 w9 := hB7.trans (hbt.below (fun i hi => by subst hi; exact hB8.size) hB7.size)
              go_wp2_with fail
              refine hKK _ _ ⟨⟨w9, hB9⟩, rfl⟩ ?_
              clear hKK
              iterate 5 (refine plan_read (o := ⟨_, _, _, _, _, _⟩) (by rfl) (by rfl) ?_; go_big_quiet_step (fail); refine wpQuiet_nil ?_)
              refine plan_fin ?_
              go_wp2_with fail
              go_meet
              exact ⟨A9, n9, c9, rfl, rfl, hB9⟩
          case rest =>
            obtain ⟨A7, n7, c7, rfl, rfl, hb7⟩ := hcut
            have ho7 : Hid (Own wc w.heap.size 5 1 A k k ((lnW k).map b8)) := ho6.out.below hb7
            have HB7 := Lib.hid (HB6.out.trans (hb7.mono HB6.out.size))
            have hsz7 := hb7.size
            clear ho6 HB6 hb7
            obtain ⟨M, hM⟩ : ∃ M, min k 1023 = M := ⟨_, rfl⟩
            have hG := HG.out
            rw [hM] at hG
            have HG2 := Lib.hid hG
            have hMk : M ≤ k ∧ M ≤ 1023 := by omega
            have hmin : min (k : Int) 1023 = (M : Int) := by omega
            clear hG hM
            go_upto_region 17 with fail
            go_cut [13, 14] from 60 to 68 (fun lv ev wx => ∃ (A7 : Option Addr) (n7 c7 : Nat), lv = .slice A7 n7 c7 ∧ ev = .int .i64 0 ∧ Below wc.heap.size wc wx)
            case first =>
              have HFE := Lib.hid (fun w7 g (hm7 : Mx w7) (hW : WireB w7 g g newW ⟨none, 0, 0, none, 0, 0, none, none, 0, 0⟩) (h1 : 1 ≤ g) (hr : Rd w7 1 A M k (((lnW k).take M).map b8)) (hB : ∀ q, blk A = some q → q < w7.heap.size ∧ q ≠ g) => feed_err_any hm7 hW h1 hr (by omega) hB HG2.out)
              have HDR : Hid (Below wc.heap.size wc wc.drew) := (Below.refl _ _).drew
              have hsl := run_slice_h_rd (P := Tryd.prog) (A := A) (n := k) (c := k) eb (kh := .i64) M (H := (M : Int)) rfl (by omega)
              clear HE HF HG HE1 HE2 HG2
              refine wp_region_plan (MPlan.reads [1, 2, 3, 4] (.one 0 (.one 5 (MPlan.reads [6, 7, 8, 9, 10] .fin)))) (fun x => ∃ b : Later wc, x = b.at') (by kernel_rfl) (by kernel_rfl) (by kernel_rfl) (fun _ _ _ _ _ h => h) ⟨⟨wc.drew, (Below.refl _ _).drew⟩, rfl⟩ ?_
              iterate 2 (refine plan_read (o := ⟨_, _, _, _, _, _⟩) (by rfl) (by rfl) ?_; go_big_quiet_step (fail); refine wpQuiet_nil ?_)
              refine plan_run (o := ⟨_, _, _, _, _, _⟩) (by rfl) (by rfl) (.int .i64 (M : Int)) (fun w' _ => by
                go_simp
                ) ?_
              simp only [Act.put, List.setIfInBounds_toArray, List.set_cons_succ, List.set_cons_zero]
              refine plan_read (o := ⟨_, _, _, _, _, _⟩) (by rfl) (by rfl) ?_
              go_big_quiet_step (fail)
              refine wpQuiet_nil ?_
              refine plan_one (o := ⟨_, _, _, _, _, _⟩) (by rfl) (fun KK hKK => ?_)
              go_wp2_with fail
              refine (New_any _).mono ?_
              rintro e w8 ⟨rfl, hW8, hb8⟩
              have hB8 := HDR.out.trans hb8
              have HW8 := Lib.hid hW8
              have hlt8 := hW8.lt
              clear hW8 hb8
              go_wp2_with fail
              refine hKK _ _ ⟨⟨w8, hB8⟩, rfl⟩ ?_
              clear hKK
              refine plan_one (o := ⟨_, _, _, _, _, _⟩) (by rfl) (fun KK hKK => ?_)
              go_wp2_with fail
              refine (HFE.out w8 _ (HM.out _ (HB7.out.trans (hB8.mono HB7.out.size))) HW8.out (by have := HDR.out.size; omega) ((ho7.out.below hB8).rd.take_ hMk.1) (fun q hq => by
                have h1 := ho7.out.lt q hq
                have h2 := HDR.out.size
                omega)).mono ?_
              rintro e w9 ⟨A9, n9, c9, rfl, hbt⟩
              have hB9 : Below wc.heap.size wc w9 := hB8.trans (hbt.below (fun i hi => by subst hi; exact HDR.out.size) hB8.size)
              go_wp2_with fail
              refine hKK _ _ ⟨⟨w9, hB9⟩, rfl⟩ ?_
              clear hKK
              iterate 5 (refine plan_read (o := ⟨_, _, _, _, _, _⟩) (by rfl) (by rfl) ?_; go_big_quiet_step (fail); refine wpQuiet_nil ?_)
              refine plan_fin ?_
              go_wp2_with fail
              go_meet
              exact ⟨A9, n9, c9, rfl, rfl, hB9⟩
            case rest =>
              obtain ⟨A8, n8, c8, rfl, rfl, hb8⟩ := hcut
              have HB8 := Lib.hid (HB7.out.trans (hb8.mono HB7.out.size))
              have he1 : E1 = if 32 < j + 1 then 2 else 0 := HE1.out.symm.trans HE.out
              have he2 : E2 = if 1024 < k + 2 then 2 else 0 := HE2.out.symm.trans HF.out
              clear HE HF HG HE1 HE2 HG2 hb8 ho7 hmin hMk hz hz2
              by_cases q1 : 32 < j + 1 <;> by_cases q2 : 1024 < k + 2
              all_goals
                simp only [q1, q2, if_true, if_false] at he1 he2
                subst he1 he2
                have d1 : decide ((32 : Int) < (j : Int) + 1) = decide (32 < j + 1) := by rw [decide_eq_decide]; omega
                have d2 : decide ((j : Int) + 1 ≤ 32) = !decide (32 < j + 1) := by rw [← decide_not, decide_eq_decide]; omega
                have d3 : decide ((1024 : Int) < (k : Int) + 2) = decide (1024 < k + 2) := by rw [decide_eq_decide]; omega
                have d4 : decide ((k : Int) + 2 ≤ 1024) = !decide (1024 < k + 2) := by rw [← decide_not, decide_eq_decide]; omega
                simp only [q1, q2, decide_true, decide_false, Bool.not_true, Bool.not_false] at d1 d2 d3 d4
                clear q1 q2
                go_wp2_with fail
                go_ret
                exact ⟨rfl, HB8.out⟩

end Go.Proofs.YtckkmdigmecagaaDoor
