/-
  Joined texts of this claim's author (each began as a text of its own; each says itself what it holds).
-/
import Derived.Test.YtckkmdigmecagaaGreatDoorG06
import Derived.Test.YtckkmdigmecagaaGreatDoorG03
import Derived.Test.YtckkmdigmecagaaGreatDoorG02
import Derived.Test.YtckkmdigmecagaaGreatDoorG00
set_option linter.unusedVariables false
set_option linter.unusedSimpArgs false

/-
  The document's Alike and Same: of what is the same.
-/
namespace Go.Proofs.YtckkmdigmecagaaGreatDoor
open Go.RowKit

section
variable {ops : Array Oper} {Q : Exit → Act → World → Prop}
theorem neq_fd {a b a2 b2 : Bs} (W : World) : (binOp .neq 44 (.agg (Fl.fdA a b)) (.agg (Fl.fdA a2 b2))).run Tryz.prog W = .ok (.bool (!Fl.fdEq a b a2 b2)) W := by
  rw [run_neq_struct, Fl.equal_fd]
  rfl
theorem plan_neq_fd {S : World → Prop} {i : Nat} {o : Oper} {p : MPlan} {a : Act} {w : World} (ho : ops[i]? = some o) {u v : Operand} {x y x2 y2 : Bs} (hop : o.op = .binOp .neq 44 u v 44) (hw : Region.wanted o (yielded ops a.tmps) = true) (hu : a.eval u = .agg (Fl.fdA x y)) (hv : a.eval v = .agg (Fl.fdA x2 y2))
    (h : wpPlan Tryz.prog ops Q S p (a.put o.dst (.bool (!Fl.fdEq x y x2 y2))) w) : wpPlan Tryz.prog ops Q S (.read i p) a w :=
  plan_run ho hw _ (fun w' _ => by
    have hg := run_eqGuard_agg (P := Tryz.prog) w' .neq 44 u v (Fl.fdA x y) (Fl.fdA x2 y2) (by kernel_rfl)
    unfold execOp
    simp only [hop, hu, hv, Sem.run_bind, Sem.run_pure, Result.andThen_ok, hg, neq_fd w']) h
end
theorem fdEq_self (x y : Bs) : (!Fl.fdEq x y x y) = false := by simp [Fl.fdEq]

set_option maxRecDepth 20000 in
set_option maxHeartbeats 4000000 in
theorem Alike_same {w : World} {A A2 : Option Addr} {n c n2 c2 : Nat} {fs : List Fl.Fd} (h : Fl.Fds w A n c fs) (h2 : Fl.Fds w A2 n2 c2 fs) :
    Calls Tryz.prog 31 #[.slice A n c, .slice A2 n2 c2] w fun e w' => e = .returned (.bool true) ∧ Below w.heap.size w w' := by
  have hl := h.len
  have hl2 := h2.len
  have hmx : n ≤ maxLen := Nat.le_trans (Rd.le h) (Rd.max h)
  unfold maxLen at hmx
  obtain rfl : n = n2 := hl.symm.trans hl2
  have HL := Lib.hid hl
  clear hl hl2
  go_enter Tryz.func31, Tryz.ntmps31
  go_wp2_with fail
  go_loopw [5] (fun i wr => ∃ k : Nat, k ≤ n ∧ i = .int .i64 k ∧ Below w.heap.size w wr) (fun i _ => n - (intOf i).toNat)
  case atStart => exact ⟨0, by omega, rfl, Below.refl _ _⟩
  case round =>
    obtain ⟨k, hk, rfl, hb⟩ := hrel
    by_cases hlt : k < n
    · have hx : fs[k]? = some (fs[k]'(by rw [HL.out]; exact hlt)) := List.getElem?_eq_getElem _
      generalize fs[k]'(by rw [HL.out]; exact hlt) = f at hx
      have hidx := fun W => h.idx hlt W
      have hidy := fun W => h2.idx hlt W
      have hlx := fun b : Later wr => Fl.Fds.load ((h.below hb).below b.below) hx
      have hly := fun b : Later wr => Fl.Fds.load ((h2.below hb).below b.below) hx
      obtain ⟨N, V⟩ := f
      dsimp only at hlx hly
      have hk' : (k : Int) < n := by omega
      clear hx
      go_wp2_with fail
      refine wp_region_plan (MPlan.reads [0, 1, 2, 3, 4, 5, 6, 7, 8] .fin) (fun x => ∃ b : Later wr, x = b.at') (by kernel_rfl) (by kernel_rfl) (by kernel_rfl) (fun _ _ _ _ _ h => h) ⟨⟨wr.drew, (Below.refl _ _).drew⟩, rfl⟩ ?_
      iterate 3 (refine plan_read (o := ⟨_, _, _, _, _, _⟩) (by rfl) (by rfl) ?_; go_big_quiet_step (fail); refine wpQuiet_nil ?_)
      refine plan_load (o := ⟨_, _, _, _, _, _⟩) (by rfl) rfl (by rfl) _ rfl _ (fun w' hS => by obtain ⟨b, rfl⟩ := hS; exact hlx b) ?_
      simp only [Act.put, List.setIfInBounds_toArray, List.set_cons_succ, List.set_cons_zero]
      iterate 3 (refine plan_read (o := ⟨_, _, _, _, _, _⟩) (by rfl) (by rfl) ?_; go_big_quiet_step (fail); refine wpQuiet_nil ?_)
      refine plan_load (o := ⟨_, _, _, _, _, _⟩) (by rfl) rfl (by rfl) _ rfl _ (fun w' hS => by obtain ⟨b, rfl⟩ := hS; exact hly b) ?_
      simp only [Act.put, List.setIfInBounds_toArray, List.set_cons_succ, List.set_cons_zero]
      refine plan_neq_fd (o := ⟨_, _, _, _, _, _⟩) (by rfl) rfl (by rfl) rfl rfl ?_
      rw [fdEq_self]
      simp only [Act.put, List.setIfInBounds_toArray, List.set_cons_succ, List.set_cons_zero]
      refine plan_fin ?_
      have hb2 := hb.drew
      clear hlx hly hidx hidy hb hlt
      go_wp2_with fail
      go_roundw
      case rel => exact ⟨k + 1, by omega, by go_num, hb2⟩
      case measure => simp [intOf]; omega
    · obtain rfl : k = n := by omega
      go_wp2_with fail
      go_ret
      exact ⟨rfl, hb⟩

set_option maxRecDepth 20000 in
set_option maxHeartbeats 8000000 in
theorem Same_same {w : World} {M T : Bs} {F F2 D D2 : Option Addr} {nF cF nF2 cF2 nD cD nD2 cD2 : Nat} {kp : Bool} {fs : List Fl.Fd} {bd : Bs} (hF : Fl.Fds w F nF cF fs) (hF2 : Fl.Fds w F2 nF2 cF2 fs) (hD : Rd w 1 D nD cD (bd.map b8)) (hD2 : Rd w 1 D2 nD2 cD2 (bd.map b8)) :
    Calls Tryz.prog 15 #[.agg (reqA M T F nF cF D nD cD kp), .agg (reqA M T F2 nF2 cF2 D2 nD2 cD2 kp)] w fun e w' => e = .returned (.bool true) ∧ Below w.heap.size w w' := by
  go_enter Tryz.func15, Tryz.ntmps15
  have hbb : Below w.heap.size w ((w.alloc (.cells (reqA M T F nF cF D nD cD kp) 42)).alloc (.cells (reqA M T F2 nF2 cF2 D2 nD2 cD2 kp) 42)) := ((Below.refl _ _).alloc (Nat.le_refl _) _).alloc (by simp) _
  have HA := Lib.hid (Alike_same (Fl.Fds.below hF hbb) (Fl.Fds.below hF2 hbb))
  have hs1 := run_str_rd (P := Tryz.prog) (dst := 9) eb Tryz.underlying5 Tryz.underlying9 (hD.below hbb)
  have hs2 := run_str_rd (P := Tryz.prog) (dst := 9) eb Tryz.underlying5 Tryz.underlying9 (hD2.below hbb)
  have HB := Lib.hid hbb
  clear hbb hF hF2 hD hD2
  unfold reqA at HA hs1 hs2 HB ⊢
  go_wp2_with fail
  refine HA.out.mono ?_
  rintro e w2 ⟨rfl, hb2⟩
  have hb3 := HB.out.trans (hb2.mono HB.out.size)
  clear hb2 HA HB hs1 hs2
  go_wp2_with fail
  go_ret
  exact ⟨rfl, hb3⟩

end Go.Proofs.YtckkmdigmecagaaGreatDoor

/-
  How a slice of ints that came in is opened.
-/
namespace Go.Proofs.YtckkmdigmecagaaGreatDoor
open Go.ChangeShapes Go.WideShapes Go.ChangeAt Go.RowKit

/-- An int as a cell. -/
def i8 (x : Int) : Value := .int .i64 x
/-- A slice that reads as these ints, each within its bounds. -/
structure RdI (w : World) (A : Option Addr) (n c : Nat) (zs : List Int) : Prop where
  rd : Rd w 1 A n c (zs.map i8)
  lo : ∀ z ∈ zs, -9223372036854775808 ≤ z
  hi : ∀ z ∈ zs, z ≤ 9223372036854775807
theorem RdI.below {w w' : World} {A : Option Addr} {n c : Nat} {zs : List Int} (h : RdI w A n c zs) (hb : Below w.heap.size w w') : RdI w' A n c zs := ⟨h.rd.below hb, h.lo, h.hi⟩

theorem rd_i64s {w : World} {a : Option Addr} {len cap : Nat} {zs : List Int}
    (h : (a = none ∧ len = 0 ∧ cap = 0 ∧ zs = []) ∨ ∃ x, a = some x ∧ len ≤ cap ∧ cap ≤ maxLen ∧ zs.length = cap ∧ (∀ i, i < zs.length → w.cell? (x.add i) = some (.int .i64 (zs.getD i 0))) ∧ ∀ n ∈ zs, (Lit.int .i64 n).wf = true) :
    ∃ l : List Int, RdI w a len cap l := by
  rcases h with ⟨rfl, rfl, rfl, rfl⟩ | ⟨x, rfl, hl, hm, hz, hcell, hwz⟩
  · exact ⟨[], Rd.nil_ w 1, by simp, by simp⟩
  · refine ⟨zs.take len, ⟨by simp; omega, hl, hm, (fun h => by cases h), fun j u hu => ?_⟩, fun z hz => (wfb_i64 (hwz z (List.mem_of_mem_take hz))).1, fun z hz => (wfb_i64 (hwz z (List.mem_of_mem_take hz))).2⟩
    rw [List.getElem?_map, List.getElem?_take] at hu
    split at hu
    · have hjz : j < zs.length := by omega
      rw [List.getElem?_eq_getElem hjz] at hu
      simp only [Option.map_some, Option.some.injEq] at hu
      subst hu
      have hc := hcell j hjz
      rw [at_some, hc]
      simp only [List.getD, List.getElem?_eq_getElem hjz, Option.getD_some]
      rfl
    · cases hu

end Go.Proofs.YtckkmdigmecagaaGreatDoor

/-
  cofferlaw0's Place.
-/
namespace Go.Proofs.YtckkmdigmecagaaGreatDoor
open Go.RowKit

/-- A number from 0 to n - 1. -/
def placeP (k : Int) (n : Nat) : Nat := if n = 0 then 0 else (k % (n : Int)).toNat
theorem placeP_lt (k : Int) (n : Nat) (h : 1 ≤ n) : placeP k n < n := by
  unfold placeP
  rw [if_neg (by omega)]
  have h1 := Int.emod_nonneg k (b := (n : Int)) (by omega)
  have h2 := Int.emod_lt_of_pos k (b := (n : Int)) (by omega)
  omega
theorem place_pos (k : Int) (n : Nat) (h : 1 ≤ n) (hk : 0 ≤ k) : k.tmod n = (placeP k n : Nat) := by
  rw [Int.tmod_eq_emod_of_nonneg hk]
  unfold placeP
  rw [if_neg (by omega)]
  have h1 := Int.emod_nonneg k (b := (n : Int)) (by omega)
  omega
theorem place_neg (k : Int) (n : Nat) (h : 1 ≤ n) (hk : k < 0) : (k.tmod n = 0 ∧ placeP k n = 0) ∨ (k.tmod n < 0 ∧ -(n : Int) < k.tmod n ∧ k.tmod n + n = (placeP k n : Nat)) := by
  have e : k.tmod n = -((-k) % (n : Int)) := by
    have : k = -(-k) := by omega
    rw [this, Int.neg_tmod, Int.tmod_eq_emod_of_nonneg (by omega)]
    simp
  have h1 := Int.emod_nonneg (-k) (b := (n : Int)) (by omega)
  have h2 := Int.emod_lt_of_pos (-k) (b := (n : Int)) (by omega)
  have h3 := Int.emod_nonneg k (b := (n : Int)) (by omega)
  have h4 := Int.emod_lt_of_pos k (b := (n : Int)) (by omega)
  have h5 := Int.mul_ediv_add_emod (-k) n
  have h6 := Int.mul_ediv_add_emod k n
  rw [e]
  unfold placeP
  rw [if_neg (by omega)]
  have h7 : (n : Int) * ((-k) / n + k / n) = -((-k) % n + k % n) := by rw [Int.mul_add]; omega
  obtain ⟨q, hq⟩ : ∃ q, (-k) / (n : Int) + k / n = q := ⟨_, rfl⟩
  rw [hq] at h7
  by_cases h0 : (-k) % (n : Int) = 0
  · left
    refine ⟨by omega, ?_⟩
    have : k % (n : Int) = 0 := by
      have : q = 0 := by
        rcases Int.lt_trichotomy q 0 with hlt | h | hgt
        · have : (n : Int) * q ≤ n * (-1) := Int.mul_le_mul_of_nonneg_left (by omega) (by omega)
          omega
        · exact h
        · have : (n : Int) * 1 ≤ n * q := Int.mul_le_mul_of_nonneg_left (by omega) (by omega)
          omega
      rw [this] at h7
      omega
    omega
  · right
    refine ⟨by omega, by omega, ?_⟩
    have : q = -1 := by
      rcases Int.lt_trichotomy q (-1) with hlt | h | hgt
      · have : (n : Int) * q ≤ n * (-2) := Int.mul_le_mul_of_nonneg_left (by omega) (by omega)
        omega
      · exact h
      · have : (n : Int) * 0 ≤ n * q := Int.mul_le_mul_of_nonneg_left (by omega) (by omega)
        omega
    rw [this] at h7
    omega

theorem Place_any (k : Int) (n : Nat) (w : World) (hk0 : -9223372036854775808 ≤ k) (hk1 : k ≤ 9223372036854775807) (hn : n ≤ 1152921504606846976) :
    Calls Tryz.prog 16 #[.int .i64 k, .int .i64 (n : Int)] w fun e w' => e = .returned (.int .i64 (placeP k n : Nat)) ∧ w = w' := by
  by_cases h : 1 ≤ n
  · have hn1 : (1 : Int) ≤ n := by omega
    have hn2 : (n : Int) ≤ 1152921504606846976 := by omega
    have hlt := placeP_lt k n h
    by_cases hk : 0 ≤ k
    · have HT := Lib.hid (place_pos k n h hk)
      have hb := Int.emod_nonneg k (b := (n : Int)) (by omega)
      have HE : Hid (k % (n : Int) = (placeP k n : Nat)) := by
        show _ = _
        rw [← Int.tmod_eq_emod_of_nonneg hk]
        exact HT.out
      clear HT hlt
      go_enter Tryz.func16, Tryz.ntmps16
      go_wp2_with fail
      go_ret
      rw [HE.out]
      exact ⟨rfl, rfl⟩
    · have hk' : k < 0 := by omega
      have ht := place_neg k n h hk'
      obtain ⟨t, hT⟩ : ∃ t, k.tmod n = t := ⟨_, rfl⟩
      rw [hT] at ht
      have hrun : IntKind.i64.wrap t = t := by
        rw [IntKind.wrap_i64]
        rcases ht with ⟨h1, _⟩ | ⟨h1, h2, _⟩ <;> omega
      rcases ht with ⟨h1, h2⟩ | ⟨h1, h2, h3⟩
      · subst h1
        have HP := Lib.hid h2
        clear hk h2 hrun
        go_enter Tryz.func16, Tryz.ntmps16
        go_wp2_with fail
        go_ret
        rw [HP.out]
        exact ⟨rfl, rfl⟩
      · have H3 := Lib.hid h3
        clear hk h3 hrun
        go_enter Tryz.func16, Tryz.ntmps16
        go_wp2_with fail
        go_ret
        rw [H3.out]
        exact ⟨rfl, rfl⟩
  · obtain rfl : n = 0 := by omega
    go_enter Tryz.func16, Tryz.ntmps16
    go_wp2_with fail
    go_ret
    exact ⟨rfl, rfl⟩

end Go.Proofs.YtckkmdigmecagaaGreatDoor

/-
  cofferlaw0's Place and Cut.
-/
namespace Go.Proofs.YtckkmdigmecagaaGreatDoor
open Go.RowKit

theorem RdI.at {w : World} {A : Option Addr} {n c : Nat} {zs : List Int} (h : RdI w A n c zs) {t : TypeId} {z0 : Value} {bytes : Nat} (et : ElemT Tryz.prog t 3 z0 1 bytes) (J : Int) (k : Nat) (hJ : J = k) (hk : k < n) :
    ∃ z, Hid (zs[k]? = some z) ∧ (∀ W, (Instr.indexAt t (.slice A n c) (.int .i64 J)).run Tryz.prog W = .ok (.pointer (some (at_ A k))) W) ∧
      w.cell? (at_ A k) = some (.int .i64 z) ∧ -9223372036854775808 ≤ z ∧ z ≤ 9223372036854775807 := by
  subst hJ
  have hl := h.rd.len
  simp only [List.length_map, Nat.mul_one] at hl
  have hkl : k < zs.length := by omega
  refine ⟨zs[k], List.getElem?_eq_getElem hkl, fun W => by simpa using run_index_rd et h.rd.nil h.rd.le k hk W, h.rd.cell k _ ?_, h.lo _ (List.getElem_mem hkl), h.hi _ (List.getElem_mem hkl)⟩
  rw [List.getElem?_map, List.getElem?_eq_getElem hkl]
  rfl
theorem ei : ElemT Tryz.prog 35 3 (.int .i64 0) 1 8 := ElemT.of Tryz.underlying35 (by kernel_rfl) rfl (by omega)

/-- All bytes of the rows. -/
def flat (ll : List Row) : List UInt8 := (ll.map Row.l).flatten
theorem flat_snoc (ll : List Row) (r : Row) : flat (ll ++ [r]) = flat ll ++ r.l := by simp [flat]

end Go.Proofs.YtckkmdigmecagaaGreatDoor

/-
  cofferlaw0's Cut.
-/
namespace Go.Proofs.YtckkmdigmecagaaGreatDoor
open Go.RowKit

theorem Rows2.below {w w' : World} {A : Option Addr} {n c : Nat} {ll : List Row} (h : Rows2 w A n c ll) (hb : Below w.heap.size w w') : Rows2 w' A n c ll := h.keep hb
set_option maxRecDepth 20000 in
set_option maxHeartbeats 4000000 in
theorem CutL_any {w : World} (A : Option Addr) (n c : Nat) (l : List UInt8) (h : Rd w 1 A n c (l.map b8)) (A2 : Option Addr) (n2 c2 : Nat) (zs : List Int) (h2 : RdI w A2 n2 c2 zs) (hn : n ≤ 1073741824) (hn2 : n2 ≤ 1048576) :
    Calls Tryz.prog 21 #[.slice A n c, .slice A2 n2 c2] w fun e w' => ∃ L m d ll, e = .returned (.slice L m d) ∧ Own w' w.heap.size 27 1 L m d (ll.map Row.val) ∧ (∀ r ∈ ll, Rd w 1 r.A r.n r.c (r.l.map b8) ∧ 1 ≤ r.n ∧ r.n ≤ n ∧ blk r.A = blk A) ∧ flat ll = l ∧ m ≤ n2 + 1 ∧ Below w.heap.size w w' := by
  have HH := Lib.hid h
  have H2 := Lib.hid h2
  have hln := Lib.hid h.lenb
  clear h h2
  go_enter Tryz.func21, Tryz.ntmps21
  go_wp2_with fail
  go_loopw [0, 5, 6] (fun b o i wr => ∃ (j k : Nat) (A1 : Option Addr) (c1 : Nat) (L : Option Addr) (m d : Nat) (ll : List Row), j ≤ n2 ∧ k ≤ n ∧ b = .slice A1 (n - k) c1 ∧ o = .slice L m d ∧ i = .int .i64 j ∧ Hid (Rd w 1 A1 (n - k) c1 ((l.drop k).map b8)) ∧ n - k ≤ c1 ∧ c1 ≤ maxLen ∧ Hid (blk A1 = blk A) ∧
      Own wr w.heap.size 27 1 L m d (ll.map Row.val) ∧ Hid (∀ r ∈ ll, Rd w 1 r.A r.n r.c (r.l.map b8) ∧ 1 ≤ r.n ∧ r.n ≤ n ∧ blk r.A = blk A) ∧ Hid (flat ll = l.take k) ∧ m ≤ j ∧ Below w.heap.size w wr) (fun _ _ i _ => n2 - (intOf i).toNat)
  case atStart => exact ⟨0, 0, A, c, none, 0, 0, [], by omega, by omega, rfl, rfl, rfl, by simpa [Hid] using HH.out, HH.out.le, HH.out.max, rfl, Own.nil_ _ _ _ _, (show ∀ r ∈ ([] : List Row), _ from fun r hr => (List.not_mem_nil hr).elim), (show flat [] = l.take 0 from rfl), by omega, Below.refl _ _⟩
  case round =>
    obtain ⟨j, k, A1, c1, L, m, d, ll, hj, hk, rfl, rfl, rfl, hR, hc1, hc2, hbA, ho, hE, hF, hm, hb⟩ := hrel
    have fin : ∀ (wr : World) (L : Option Addr) (m d : Nat) (ll : List Row), Own wr w.heap.size 27 1 L m d (ll.map Row.val) → (∀ r ∈ ll, Rd w 1 r.A r.n r.c (r.l.map b8) ∧ 1 ≤ r.n ∧ r.n ≤ n ∧ blk r.A = blk A) → flat ll = l → m ≤ n2 + 1 → Below w.heap.size w wr →
        ∃ L' m' d' ll', Ending.returned (.slice L m d) = .returned (.slice L' m' d') ∧ Own wr w.heap.size 27 1 L' m' d' (ll'.map Row.val) ∧ (∀ r ∈ ll', Rd w 1 r.A r.n r.c (r.l.map b8) ∧ 1 ≤ r.n ∧ r.n ≤ n ∧ blk r.A = blk A) ∧ flat ll' = l ∧ m' ≤ n2 + 1 ∧ Below w.heap.size w wr :=
      fun wr L m d ll a1 a2 a3 a4 a5 => ⟨L, m, d, ll, rfl, a1, a2, a3, a4, a5⟩
    have Fin := Lib.hid fin
    clear fin
    have hml := ho.rd.len
    obtain ⟨q, hq⟩ : ∃ q, n - k = q := ⟨_, rfl⟩
    rw [hq] at hR hc1 ⊢
    have hqn : q ≤ n := by omega
    have HQ := Lib.hid hq
    have HML := Lib.hid hml
    clear hq hml
    unfold maxLen at hc2
    by_cases hgo : j < n2 ∧ 1 ≤ q
    · obtain ⟨g1, g2⟩ := hgo
      obtain ⟨z, hz, hidx, hcell, hz0, hz1⟩ := (H2.out.below hb).at ei (j : Int) j rfl g1
      obtain ⟨p, hp⟩ : ∃ p, placeP z q = p := ⟨_, rfl⟩
      have hpl := placeP_lt z q g2
      have hP := Lib.hid (fun w => Place_any z q w hz0 hz1 (by omega))
      rw [hp] at hpl hP
      clear hp
      have hs1 := run_slice_h_rd (P := Tryz.prog) (A := A1) (n := q) (c := c1) eb (kh := .i64) (p + 1) (H := (p : Int) + 1) (by omega) (by omega)
      have hs2 := run_slice_l_rd (P := Tryz.prog) (A := A1) (n := q) (c := c1) eb (kl := .i64) (p + 1) (L := (p : Int) + 1) (by omega) (by omega)
      have g1' : (j : Int) < n2 := by omega
      have g2' : (0 : Int) < q := by omega
      clear g1 g2
      go_wp2_with (first
        | (go_at_call 16; refine (hP.out _).mono ?_; rintro e w1 ⟨rfl, rfl⟩)
        | (at_builtin; refine wpList_app rfl _ _ rfl er (ho.alloc _) rfl (Rd.lit _ [_] _ 1 rfl (by unfold maxLen; omega)) rfl (by simp [Value.oneCell']) (by omega) (by unfold maxLen; omega) (by have := hb.size; simp; omega) ?_; intro L2 d2 w2 ho2 hg2 hq2))
      go_roundw
      case rel =>
        have hk2 : k + (p + 1) ≤ n := by have := HQ.out; omega
        have e1 : n - (k + (p + 1)) = q - (p + 1) := by have := HQ.out; omega
        refine ⟨j + 1, k + (p + 1), cutA A1 c1 (p + 1) 1, c1 - (p + 1), L2, m + 1, d2, ll ++ [⟨A1, p + 1, c1, (l.drop k).take (p + 1)⟩], by omega, hk2, by rw [e1], rfl, by go_num, ?_, by omega, by unfold maxLen; omega, (show _ = _ by rw [blk_cutA]; exact hbA.out), ?_, ?_, ?_, by omega, ?_⟩
        · show Rd _ _ _ _ _ _
          rw [e1]
          have := hR.out.drop_ (k := p + 1) (by omega)
          rw [List.drop_drop] at this
          exact this
        · rw [List.map_append]
          exact ho2
        · intro r hr
          rcases List.mem_append.1 hr with h | h
          · exact hE.out r h
          · obtain rfl : r = _ := by simpa using h
            refine ⟨hR.out.take_ (k := p + 1) (by omega), by dsimp only; omega, by dsimp only; omega, hbA.out⟩
        · show _ = _
          rw [flat_snoc, hF.out]
          dsimp only
          rw [← List.take_add]
        · exact (hb.alloc hb.size _).grown hg2 (by have := hb.size; simp; omega) (fun g hg => (ho.lt g hg).1)
      case measure => simp [intOf]; omega
    · by_cases hq0 : 1 ≤ q
      · have hj2 : (n2 : Int) ≤ j := by omega
        have hq' : (0 : Int) < q := by omega
        clear hgo hq0
        go_wp2_with (at_builtin; refine wpList_app rfl _ _ rfl er (ho.alloc _) rfl (Rd.lit _ [_] _ 1 rfl (by unfold maxLen; omega)) rfl (by simp [Value.oneCell']) (by omega) (by unfold maxLen; omega) (by have := hb.size; simp; omega) ?_; intro L2 d2 w2 ho2 hg2 hq2)
        go_ret
        refine Fin.out w2 L2 (m + 1) d2 (ll ++ [⟨A1, q, c1, l.drop k⟩]) (by rw [List.map_append]; exact ho2) ?_ ?_ (by omega) ((hb.alloc hb.size _).grown hg2 (by have := hb.size; simp; omega) (fun g hg => (ho.lt g hg).1))
        · intro r hr
          rcases List.mem_append.1 hr with h | h
          · exact hE.out r h
          · obtain rfl : r = _ := by simpa using h
            refine ⟨hR.out, by dsimp only; omega, hqn, hbA.out⟩
        · rw [flat_snoc, hF.out]
          dsimp only
          exact List.take_append_drop k l
      · have hq' : (q : Int) ≤ 0 := by omega
        have hkl : l.length ≤ k := by
          have := HQ.out
          have := hln.out
          omega
        have hgo' : (n2 : Int) ≤ j ∨ (j : Int) < n2 := by omega
        clear hgo hq0
        rcases hgo' with h1 | h1
        all_goals
          go_wp2_with fail
          go_ret
          refine Fin.out _ L m d ll ho hE.out ?_ (by omega) hb
          rw [hF.out, List.take_of_length_le hkl]

end Go.Proofs.YtckkmdigmecagaaGreatDoor

/-
  The law ChunkPieces: pieces.
-/
namespace Go.Proofs.YtckkmdigmecagaaGreatDoor
open Go.RowKit

theorem feedP_app : ∀ (l : List UInt8) (s : St) (x : List UInt8), feedP s (l ++ x) = ((feedP s l).1 + (feedP (feedP s l).2 x).1, (feedP (feedP s l).2 x).2)
  | [], s, x => by simp [feedP]
  | a :: l, s, x => by
    by_cases hn : s.nx = 9 ∨ s.bd ≠ 0
    · rw [feedP_stop hn, feedP_stop hn (a :: l)]
      dsimp only
      rw [feedP_stop hn x]
      simp
    · rw [List.cons_append, feedP, if_neg hn, feedP_app l, feedP, if_neg hn]
      simp only [Nat.add_right_comm]
theorem Rows2.but {S : Nat → Prop} {w w' : World} {A : Option Addr} {n c : Nat} {ll : List Row} (h : Rows2 w A n c ll) (hb : But S w w') (h1 : ∀ k, (blk A = some k ∨ ∃ r ∈ ll, blk r.A = some k) → ¬ S k) : Rows2 w' A n c ll :=
  ⟨h.rd.but hb fun k hk => h1 k (.inl hk), fun r hr => (h.each r hr).but hb fun k hk => h1 k (.inr ⟨r, hr, hk⟩)⟩
theorem flat_take {ll : List Row} {j : Nat} {r : Row} (h : ll[j]? = some r) : flat (ll.take (j + 1)) = flat (ll.take j) ++ r.l := by
  obtain ⟨hj, rfl⟩ := List.getElem?_eq_some_iff.1 h
  rw [List.take_succ_eq_append_getElem hj, flat_snoc]
theorem flat_drop {ll : List Row} (j : Nat) : flat ll = flat (ll.take j) ++ flat (ll.drop j) := by
  unfold flat
  rw [← List.flatten_append, ← List.map_append, List.take_append_drop]

end Go.Proofs.YtckkmdigmecagaaGreatDoor

/-
  Rows of requests are read; requests of pieces.
-/
namespace Go.Proofs.YtckkmdigmecagaaGreatDoor
open Go.RowKit

theorem rqL_app : ∀ (a b : List RP), rqL (a ++ b) = rqL a ++ rqL b
  | [], b => rfl
  | p :: a, b => by rw [List.cons_append, rqL, rqL, rqL_app a b, List.append_assoc]
theorem rqL_one : ∀ (l : List RP), ∀ u ∈ rqL l, u.oneCell' = true
  | [], u, h => by simp [rqL] at h
  | p :: l, u, h => by
    rw [rqL, List.mem_append] at h
    rcases h with h | h
    · exact req_one u h
    · exact rqL_one l u h
/-- Two rows, one behind the other. -/
theorem Reqs.append {w w' : World} {base n c n2 c2 : Nat} {A A2 : Option Addr} {l1 l2 : List RP} (h : Reqs w base A n c l1) (h2 : Reqs w base A2 n2 c2 l2) (hd : ∀ k ∈ reqB A l1, k ∉ reqB A2 l2)
    {A' : Option Addr} {n' c' : Nat} (hg : w.grownBy w' (blk A)) (ho : Own w' base 42 5 A' n' c' (rqL l1 ++ rqL l2)) (hA : blk A' = blk A ∨ blk A' = some w.heap.size) : Reqs w' base A' n' c' (l1 ++ l2) := by
  have h0 := h.nd
  have h02 := h2.nd
  rw [List.nodup_append] at h0 h02
  obtain ⟨n1, nn2, n3⟩ := h0
  obtain ⟨m1, m2, m3⟩ := h02
  have hX1 : ∀ k ∈ l1.flatMap RP.blocks, blk A ≠ some k := fun k hk e => n3 k (blk_mem e) k hk rfl
  have hX2 : ∀ k ∈ l2.flatMap RP.blocks, blk A ≠ some k := fun k hk e => hd k (List.mem_append_left _ (blk_mem e)) (List.mem_append_right _ hk)
  refine ⟨by rw [rqL_app]; exact ho, fun q hq => ?_, ?_⟩
  · rcases List.mem_append.1 hq with h1 | h1
    · obtain ⟨h3, h4⟩ := h.each q h1
      exact ⟨h3.grown hg fun k hk e => hX1 k (List.mem_flatMap.2 ⟨q, h1, List.mem_append_left _ (blk_mem hk)⟩) e, h4.grown hg fun k hk e => hX1 k (List.mem_flatMap.2 ⟨q, h1, List.mem_append_right _ (blk_mem hk)⟩) e⟩
    · obtain ⟨h3, h4⟩ := h2.each q h1
      exact ⟨h3.grown hg fun k hk e => hX2 k (List.mem_flatMap.2 ⟨q, h1, List.mem_append_left _ (blk_mem hk)⟩) e, h4.grown hg fun k hk e => hX2 k (List.mem_flatMap.2 ⟨q, h1, List.mem_append_right _ (blk_mem hk)⟩) e⟩
  · rw [List.flatMap_append, List.nodup_append]
    refine ⟨by cases blk A' <;> simp, ?_, fun a ha b hb e => ?_⟩
    · rw [List.nodup_append]
      refine ⟨nn2, m2, fun a ha b hb e => ?_⟩
      subst e
      exact hd a (List.mem_append_right _ ha) (List.mem_append_right _ hb)
    · subst e
      have ha' : blk A' = some a := by simpa using ha
      rcases hA with h1 | h1
      · rcases List.mem_append.1 hb with h3 | h3
        · exact hX1 a h3 (h1.symm.trans ha')
        · exact hX2 a h3 (h1.symm.trans ha')
      · have h3 := Option.some.inj (h1.symm.trans ha')
        rcases List.mem_append.1 hb with h4 | h4
        · have := (h.in_ a (List.mem_append_right _ h4)).2
          omega
        · have := (h2.in_ a (List.mem_append_right _ h4)).2
          omega
theorem reqB_append {w : World} {A A2 A' : Option Addr} {l1 l2 : List RP} (hA : blk A' = blk A ∨ blk A' = some w.heap.size) : ∀ k ∈ reqB A' (l1 ++ l2), k ∈ reqB A l1 ∨ k ∈ reqB A2 l2 ∨ k = w.heap.size := by
  intro k hk
  rcases List.mem_append.1 hk with h1 | h1
  · have h1' : blk A' = some k := by simpa using h1
    rcases hA with h2 | h2
    · exact .inl (List.mem_append_left _ (blk_mem (h2.symm.trans h1')))
    · exact .inr (.inr (Option.some.inj (h2.symm.trans h1')).symm)
  · rw [List.flatMap_append] at h1
    rcases List.mem_append.1 h1 with h2 | h2
    · exact .inl (List.mem_append_right _ h2)
    · exact .inr (.inl (List.mem_append_right _ h2))
/-- A row of requests that is read. -/
structure RqR (w : World) (A : Option Addr) (n c : Nat) (l : List RP) : Prop where
  row : Rd w 5 A n c (rqL l)
  each : ∀ p ∈ l, Fl.Fds w p.2.F p.2.nF p.2.cF p.1.fs ∧ Rd w 1 p.2.D p.2.nD p.2.cD (p.1.bd.map b8)
section
variable {w w' : World} {base n c k : Nat} {A : Option Addr} {l : List RP} {p : RP}
theorem Reqs.rd (h : Reqs w base A n c l) : RqR w A n c l := ⟨h.row.rd, fun p hp => ⟨(h.each p hp).1.rd, (h.each p hp).2.rd⟩⟩
theorem RqR.below (h : RqR w A n c l) (hb : Below w.heap.size w w') : RqR w' A n c l := ⟨h.row.below hb, fun p hp => ⟨(h.each p hp).1.below hb, (h.each p hp).2.below hb⟩⟩
theorem RqR.len (h : RqR w A n c l) : l.length = n := by
  have := h.row.len
  rw [rqL_len] at this
  omega
theorem RqR.load (h : RqR w A n c l) (hx : l[k]? = some p) : (loadVar 42 (at_ A (k * 5))).run Tryz.prog w = .ok (.agg (RP.arr p)) w := by
  have hl := run_loadCells_list (P := Tryz.prog) w (at_ A (k * 5)) (RP.arr p).toList (fun j v hv => by
    rw [Fl.at_add2]
    have hj : j < 5 := (List.getElem?_eq_some_iff.1 hv).1
    exact h.row.cell (k * 5 + j) v (by rw [Nat.mul_comm k 5, rqL_at l k p hx j hj]; exact hv))
  have e : (RP.arr p).toList.length = 5 := rfl
  have e2 : ((RP.arr p).toList).toArray = RP.arr p := rfl
  rw [e, e2] at hl
  simp [loadVar, isAgg, run_underlying Tryz.underlying42, sizeOf_run size_req0, hl]
theorem RqR.idx (h : RqR w A n c l) (hk : k < n) (W : World) : (Instr.indexAt 29 (.slice A n c) (.int .i64 (k : Int))).run Tryz.prog W = .ok (.pointer (some (at_ A (k * 5)))) W :=
  run_index_rd eq_ h.row.nil h.row.le k hk W
end
theorem Same_rp {w : World} {p q : RP} (h : p.1 = q.1) (h1 : Fl.Fds w p.2.F p.2.nF p.2.cF p.1.fs ∧ Rd w 1 p.2.D p.2.nD p.2.cD (p.1.bd.map b8)) (h2 : Fl.Fds w q.2.F q.2.nF q.2.cF q.1.fs ∧ Rd w 1 q.2.D q.2.nD q.2.cD (q.1.bd.map b8)) :
    Calls Tryz.prog 15 #[.agg (RP.arr p), .agg (RP.arr q)] w fun e w' => e = .returned (.bool true) ∧ Below w.heap.size w w' := by
  unfold RP.arr
  rw [← h] at h2 ⊢
  exact Same_same h1.1 h2.1 h1.2 h2.2

set_option maxRecDepth 20000 in
set_option maxHeartbeats 8000000 in
theorem same_any {w : World} {A A2 : Option Addr} {n c n2 c2 : Nat} {l l2 : List RP} (h : RqR w A n c l) (h2 : RqR w A2 n2 c2 l2) (he : l.map (·.1) = l2.map (·.1)) :
    Calls Tryz.prog 17 #[.slice A n c, .slice A2 n2 c2] w fun e w' => e = .returned (.bool true) ∧ Below w.heap.size w w' := by
  have hl := h.len
  have hl2 := h2.len
  have hmx : n ≤ maxLen := Nat.le_trans h.row.le h.row.max
  unfold maxLen at hmx
  obtain rfl : n = n2 := by
    have := congrArg List.length he
    simp only [List.length_map] at this
    omega
  have HL := Lib.hid (show l.length = n ∧ l2.length = n ∧ l.map (·.1) = l2.map (·.1) from ⟨hl, hl2, he⟩)
  clear hl hl2 he
  go_enter Tryz.func17, Tryz.ntmps17
  go_wp2_with fail
  go_loopw [5] (fun i wr => ∃ k : Nat, k ≤ n ∧ i = .int .i64 k ∧ Below w.heap.size w wr) (fun i _ => n - (intOf i).toNat)
  case atStart => exact ⟨0, by omega, rfl, Below.refl _ _⟩
  case round =>
    obtain ⟨k, hk, rfl, hb⟩ := hrel
    by_cases hlt : k < n
    · have hx : l[k]? = some (l[k]'(by rw [HL.out.1]; exact hlt)) := List.getElem?_eq_getElem _
      have hy : l2[k]? = some (l2[k]'(by rw [HL.out.2.1]; exact hlt)) := List.getElem?_eq_getElem _
      generalize l[k]'(by rw [HL.out.1]; exact hlt) = p at hx
      generalize l2[k]'(by rw [HL.out.2.1]; exact hlt) = q at hy
      have hpq : p.1 = q.1 := by
        have h1 : (l.map (·.1))[k]? = some p.1 := by rw [List.getElem?_map, hx]; rfl
        have h3 : (l2.map (·.1))[k]? = some q.1 := by rw [List.getElem?_map, hy]; rfl
        rw [HL.out.2.2] at h1
        exact Option.some.inj (h1.symm.trans h3)
      have hidx := fun W => h.idx hlt W
      have hidy := fun W => h2.idx hlt W
      have hr1 := h.below hb
      have hr2 := h2.below hb
      have hlx := fun b : Later wr => (hr1.below b.below).load hx
      have hly := fun b : Later wr => (hr2.below b.below).load hy
      have HSM := Lib.hid (fun b : Later wr => Same_rp hpq ((hr1.below b.below).each p (List.mem_of_getElem? hx)) ((hr2.below b.below).each q (List.mem_of_getElem? hy)))
      have hk' : (k : Int) < n := by omega
      clear hx hy hpq hr1 hr2
      go_wp2_with fail
      refine wp_region_plan (MPlan.reads [0, 1, 2, 3, 4, 5, 6, 7] (.one 8 (MPlan.reads [9] .fin))) (fun x => ∃ b : Later wr, x = b.at') (by kernel_rfl) (by kernel_rfl) (by kernel_rfl) (fun _ _ _ _ _ h => h) ⟨⟨wr.drew, (Below.refl _ _).drew⟩, rfl⟩ ?_
      iterate 3 (refine plan_read (o := ⟨_, _, _, _, _, _⟩) (by rfl) (by rfl) ?_; go_big_quiet_step (fail); refine wpQuiet_nil ?_)
      refine plan_load (o := ⟨_, _, _, _, _, _⟩) (by rfl) rfl (by rfl) _ rfl _ (fun w' hS => by obtain ⟨b, rfl⟩ := hS; exact hlx b) ?_
      simp only [Act.put, List.setIfInBounds_toArray, List.set_cons_succ, List.set_cons_zero]
      iterate 3 (refine plan_read (o := ⟨_, _, _, _, _, _⟩) (by rfl) (by rfl) ?_; go_big_quiet_step (fail); refine wpQuiet_nil ?_)
      refine plan_load (o := ⟨_, _, _, _, _, _⟩) (by rfl) rfl (by rfl) _ rfl _ (fun w' hS => by obtain ⟨b, rfl⟩ := hS; exact hly b) ?_
      simp only [Act.put, List.setIfInBounds_toArray, List.set_cons_succ, List.set_cons_zero]
      refine plan_one (o := ⟨_, _, _, _, _, _⟩) (by rfl) (fun K hK => ?_)
      go_wp2_with fail
      refine (HSM.out ⟨wr.drew, (Below.refl _ _).drew⟩).mono ?_
      rintro e w3 ⟨rfl, hb3⟩
      have hb3' : Below wr.heap.size wr w3 := ((Below.refl _ _).drew).trans hb3
      go_wp2_with fail
      refine hK _ _ ⟨⟨w3, hb3'⟩, rfl⟩ ?_
      clear hK
      refine plan_read (o := ⟨_, _, _, _, _, _⟩) (by rfl) (by rfl) ?_
      go_big_quiet_step (fail)
      refine wpQuiet_nil ?_
      refine plan_fin ?_
      have hb2 := hb.trans (hb3'.mono hb.size)
      clear hlx hly hidx hidy hb hlt hb3 hb3' HSM
      go_wp2_with fail
      go_roundw
      case rel => exact ⟨k + 1, by omega, by go_num, hb2⟩
      case measure => simp [intOf]; omega
    · obtain rfl : k = n := by omega
      go_wp2_with fail
      go_ret
      exact ⟨rfl, hb⟩

theorem feed_len : ∀ (l : Bs) (x : WSt), (feedW x l).1.length ≤ l.length
  | [], x => Nat.le_refl _
  | c :: l, x => by
    rw [feedW]
    split
    · simp
    · split
      · simp
      · have := feed_len l (wholeF (oneF x c).2).2
        have h2 : (wholeF (oneF x c).2).1.toList.length ≤ 1 := by cases (wholeF (oneF x c).2).1 <;> simp
        simp only [List.length_append, List.length_cons]
        omega
/-- Pieces, fed one behind the other. -/
structure AInv (w : World) (ll : List Row) (g : Nat) (wr : World) (j : Nat) (y : WSt) (m1 : WMem) (A : Option Addr) (n c : Nat) (l : List RP) : Prop where
  W : WireB wr w.heap.size g y m1
  ok : WOk y
  n4 : y.nx ≤ 4
  rq : Reqs wr w.heap.size A n c l
  ap : ∀ k ∈ reqB A l, ¬ m1.has g k
  bel : Below w.heap.size w wr
  eq : feedW newW (flat ll) = (l.map (·.1) ++ (feedW y (flat (ll.drop j))).1, (feedW y (flat (ll.drop j))).2)
theorem flat_cons {ll : List Row} {j : Nat} {r : Row} (h : ll[j]? = some r) : flat (ll.drop j) = r.l ++ flat (ll.drop (j + 1)) := by
  obtain ⟨h1, e1⟩ := List.getElem?_eq_some_iff.1 h
  rw [List.drop_eq_getElem_cons h1, e1]
  simp [flat]
theorem flat_le {ll : List Row} {r : Row} (h : r ∈ ll) : r.l.length ≤ (flat ll).length := by
  induction ll with
  | nil => cases h
  | cons a ll ih =>
    have e : flat (a :: ll) = a.l ++ flat ll := rfl
    rw [e, List.length_append]
    rcases List.mem_cons.1 h with rfl | h
    · omega
    · have := ih h
      omega
theorem ainv_len {w : World} {ll : List Row} {g : Nat} {wr : World} {j : Nat} {y : WSt} {m1 : WMem} {A : Option Addr} {n c : Nat} {l : List RP} (h : AInv w ll g wr j y m1 A n c l) : n ≤ (flat ll).length := by
  have h1 := feed_len (flat ll) newW
  rw [h.eq] at h1
  have h2 := h.rq.len
  simp only [List.length_append, List.length_map] at h1
  omega
theorem ainv_step {w : World} {ll : List Row} {g : Nat} {wr w2 w3 : World} {j : Nat} {y : WSt} {m1 m2 : WMem} {A A2 A3 : Option Addr} {n c n2 c2 c3 : Nat} {l l2 : List RP} {r : Row} (h : AInv w ll g wr j y m1 A n c l) (hr : ll[j]? = some r)
    (hW : WireB w2 w.heap.size g (feedW y r.l).2.1 m2) (hR : Reqs w2 w.heap.size A2 n2 c2 l2) (hl : l2.map (·.1) = (feedW y r.l).1) (hb : But (m1.has g) wr w2) (hm : ∀ k, m2.has g k → m1.has g k ∨ wr.heap.size ≤ k) (ha : ∀ k ∈ reqB A2 l2, ¬ m2.has g k ∧ (m1.has g k ∨ wr.heap.size ≤ k))
    (hg : w2.grownBy w3 (blk A)) (ho : Own w3 w.heap.size 42 5 A3 (n + n2) c3 (rqL l ++ rqL l2)) (hA : blk A3 = blk A ∨ blk A3 = some w2.heap.size) :
    Reqs w3 w.heap.size A3 (n + n2) c3 (l ++ l2) ∧ Below w.heap.size w w3 ∧ ((feedW y r.l).2.2 = 0 → AInv w ll g w3 (j + 1) (feedW y r.l).2.1 m2 A3 (n + n2) c3 (l ++ l2)) ∧ ((feedW y r.l).2.2 ≠ 0 → (feedW newW (flat ll)).1 = (l ++ l2).map (·.1) ∧ (feedW newW (flat ll)).2.2 = (feedW y r.l).2.2) := by
  have hin := h.rq.in_
  have hrq2 := h.rq.but hb (fun k hk => h.ap k hk)
  have hd : ∀ k ∈ reqB A l, k ∉ reqB A2 l2 := fun k hk hk2 => by
    rcases (ha k hk2).2 with h1 | h1
    · exact h.ap k hk h1
    · have := (hin k hk).2
      omega
  have hbase := Nat.le_trans h.W.ge (Nat.le_of_lt h.W.lt)
  have hrq := hrq2.append hR hd hg ho hA
  have hbel : Below w.heap.size w w3 := by
    have h1 : Below w.heap.size w w2 := h.bel.trans (hb.below (fun i hi => (h.W.in_ i hi).1) hbase)
    exact h1.grown hg h1.size (fun q hq => by
      have := h.rq.row.lt q (by rw [hq])
      exact this.1)
  have hap : ∀ k, m2.has g k → blk A ≠ some k := fun k hk e => by
    have hkA : k ∈ reqB A l := List.mem_append_left _ (blk_mem e)
    rcases hm k hk with h1 | h1
    · exact h.ap k hkA h1
    · have := (hin k hkA).2
      omega
  refine ⟨hrq, hbel, fun he => ?_, fun he => ?_⟩
  · have hk := feed_ok r.l y h.ok h.n4 he
    refine ⟨hW.keep fun k hk => hg.block k (hW.in_ k hk).2 (fun e => hap k hk e.symm), hk.1, hk.2, hrq, fun k hk hk2 => ?_, hbel, ?_⟩
    · rcases reqB_append (A2 := A2) hA k hk with h1 | h1 | h1
      · rcases hm k hk2 with h3 | h3
        · exact h.ap k h1 h3
        · have := (hin k h1).2
          omega
      · exact (ha k h1).1 hk2
      · have := (hW.in_ k hk2).2
        omega
    · rw [h.eq, flat_cons hr, feed_app _ _ _ he, List.map_append, hl, List.append_assoc]
  · rw [h.eq, flat_cons hr, feed_bad _ _ _ he, List.map_append, hl]
    exact ⟨rfl, rfl⟩

set_option maxRecDepth 20000 in
set_option maxHeartbeats 8000000 in
theorem all_any {w : World} (hmx : Mx w) {L : Option Addr} {m d : Nat} {ll : List Row} (h : Rows2 w L m d ll) (ht : (flat ll).length ≤ 1048576) (hll : ∀ r ∈ ll, ∀ k, blk r.A = some k → k < w.heap.size) :
    Calls Tryz.prog 20 #[.slice L m d] w fun e w' => ∃ A n c l, e = .returned (.tuple #[.slice A n c, .int .i64 (feedW newW (flat ll)).2.2]) ∧ Reqs w' w.heap.size A n c l ∧ l.map (·.1) = (feedW newW (flat ll)).1 ∧ Below w.heap.size w w' := by
  have hln := h.len
  have hmm : m ≤ maxLen := Nat.le_trans h.rd.le h.rd.max
  unfold maxLen at hmm
  have h1 := mx_size hmx
  go_enter Tryz.func20, Tryz.ntmps20
  go_wp2_with fail
  refine (New_any w).mono ?_
  rintro e w1 ⟨rfl, hW1, hb1⟩
  have hst : AInv w ll w.heap.size w1 0 newW ⟨none, 0, 0, none, 0, 0, none, none, 0, 0⟩ none 0 0 [] := ⟨hW1, newOk, by decide, Reqs.nil_ _ _, by simp [reqB, blk], hb1, by simp⟩
  have HST := Lib.hid hst
  clear hst hW1 hb1
  go_wp2_with fail
  go_loopw [5, 6] (fun o i wr => ∃ (j : Nat) (y : WSt) (m1 : WMem) (A : Option Addr) (n c : Nat) (l : List RP), j ≤ m ∧ o = .slice A n c ∧ i = .int .i64 j ∧ Hid (AInv w ll w.heap.size wr j y m1 A n c l)) (fun _ i _ => m - (intOf i).toNat)
  case atStart => exact ⟨0, newW, _, none, 0, 0, [], by omega, rfl, rfl, HST.out⟩
  case round =>
    obtain ⟨j, y, m1, A, n, c, l, hj, rfl, rfl, hI⟩ := hrel
    clear HST
    have hnl := ainv_len hI.out
    by_cases hlt : j < m
    · obtain ⟨r, hr, hidx, hcell, hrd, -⟩ := (h.below hI.out.bel).at (j : Int) j rfl hlt
      have hr' : Hid (ll[j]? = some r) := hr
      have hrl := flat_le (List.mem_of_getElem? hr'.out)
      have hrn : r.l.length = r.n := hrd.lenb
      have HF := Lib.hid (WFeed_any hI.out.W hI.out.ok hI.out.n4 (hmx.below hI.out.bel) h1 hrd (by omega) (fun k hk => by
        have h2 := hll r (List.mem_of_getElem? hr'.out) k hk
        exact ⟨Nat.lt_of_lt_of_le h2 hI.out.bel.size, fun h3 => by have := (hI.out.W.in_ k h3).1; omega⟩))
      have hfl := feed_len r.l y
      have hrow := fun w2 (hb : But (m1.has w.heap.size) wr w2) => (hI.out.rq.but hb (fun k hk => hI.out.ap k hk)).row
      have HROW := Lib.hid hrow
      obtain ⟨E, hE⟩ : ∃ E, (feedW y r.l).2.2 = E := ⟨_, rfl⟩
      have HE := Lib.hid hE
      have HFL := Lib.hid (Nat.le_trans hfl (Nat.le_trans hrl ht))
      have HBS := Lib.hid (Nat.le_trans hI.out.W.ge (Nat.le_of_lt hI.out.W.lt))
      unfold Fed at HF
      rw [hE] at HF
      clear hr hrd hln hrl hrow hE hfl
      go_wp2_with fail
      refine HF.out.mono ?_
      rintro e w2 ⟨A2, n2, c2, l2, m2, rfl, hW2, hR2, hl2, hb2, hm2, ha2⟩
      have hn2 : n2 ≤ 1048576 := by
        have h3 := hR2.len
        have h4 := congrArg List.length hl2
        have h5 := HFL.out
        rw [List.length_map] at h4
        omega
      have ho2 := HROW.out w2 hb2
      have hrd2 := hR2.row.rd
      have hbase : w.heap.size ≤ w2.heap.size := Nat.le_trans HBS.out hb2.size
      have HS := Lib.hid (fun w3 A3 c3 => ainv_step (w3 := w3) (A3 := A3) (c3 := c3) hI.out hr'.out hW2 hR2 hl2 hb2 hm2 ha2)
      clear hW2 hR2 hl2 hb2 hm2 ha2
      have hone := rqL_one l2
      by_cases hE0 : E = 0
      · subst hE0
        go_wp2_with (at_builtin; refine wpList_app rfl _ _ rfl eq_ ho2 rfl hrd2 rfl hone (by omega) (by unfold maxLen; omega) hbase ?_; intro A3 c3 w3 ho3 hg3 hq3; have HN := Lib.hid (HS.out w3 A3 c3 hg3 ho3 hq3); clear ho3; clear hg3; clear hq3)
        go_roundw
        case rel => exact ⟨j + 1, _, m2, A3, n + n2, c3, _, by omega, rfl, by go_num, HN.out.2.2.1 HE.out⟩
        case measure => simp [intOf]; omega
      · have e1 : (E != 0) = true := by simpa using hE0
        have HE0 := Lib.hid hE0
        clear hE0
        go_wp2_with (at_builtin; refine wpList_app rfl _ _ rfl eq_ ho2 rfl hrd2 rfl hone (by omega) (by unfold maxLen; omega) hbase ?_; intro A3 c3 w3 ho3 hg3 hq3; have HN := Lib.hid (HS.out w3 A3 c3 hg3 ho3 hq3); clear ho3; clear hg3; clear hq3)
        go_ret2
        obtain ⟨q1, q2⟩ := HN.out.2.2.2 (by rw [HE.out]; exact HE0.out)
        exact ⟨A3, n + n2, c3, l ++ l2, by rw [q2, HE.out]; rfl, HN.out.1, q1.symm, HN.out.2.1⟩
    · obtain rfl : j = m := by omega
      have he := hI.out.eq
      rw [List.drop_eq_nil_of_le (by omega)] at he
      have HE := Lib.hid he
      clear he hlt
      go_wp2_with fail
      go_ret2
      have e2 : feedW newW (flat ll) = (l.map (·.1) ++ (feedW y []).1, (feedW y []).2) := HE.out
      exact ⟨A, n, c, l, by rw [e2]; rfl, hI.out.rq, by rw [e2]; simp [feedW], hI.out.bel⟩

end Go.Proofs.YtckkmdigmecagaaGreatDoor

/-
  The document's line.
-/
namespace Go.Proofs.YtckkmdigmecagaaGreatDoor
open Go.RowKit

/-- What stands at a place: no line that is whole, one that is too long, one that ends as it must not, one. -/
inductive LineR (r : Bs) (at_ : Nat) : Bs → Int → Int → Prop where
  | open_ : (10 : UInt8) ∉ r → r.length ≤ 1023 → LineR r at_ [] (-1) 0
  | long : (10 : UInt8) ∉ r.take 1024 → 1024 ≤ r.length → LineR r at_ [] ((at_ + 1024 : Nat) : Int) 2
  | bad (k : Nat) : k ≤ 1023 → r[k]? = some 10 → (10 : UInt8) ∉ r.take k → textF (r.take (k + 1)) = none → LineR r at_ [] ((at_ + k + 1 : Nat) : Int) 4
  | ok (k : Nat) (t : Bs) : k ≤ 1023 → r[k]? = some 10 → (10 : UInt8) ∉ r.take k → textF (r.take (k + 1)) = some t → LineR r at_ t ((at_ + k + 1 : Nat) : Int) 0
theorem take_snoc {r : Bs} {k : Nat} {x : UInt8} (h : r[k]? = some x) : r.take (k + 1) = r.take k ++ [x] := by
  obtain ⟨h1, e1⟩ := List.getElem?_eq_some_iff.1 h
  rw [List.take_succ_eq_append_getElem h1, e1]
theorem text_zero {r : Bs} (h : r[0]? = some 10) : textF (r.take 1) = none := by
  rw [take_snoc (k := 0) h]
  rfl
theorem text_at {r : Bs} {k : Nat} {x : UInt8} (h : r[k + 1]? = some 10) (hx : r[k]? = some x) : textF (r.take (k + 2)) = if x = 13 then some (r.take k) else none := by
  have hl := (List.getElem?_eq_some_iff.1 hx).1
  rw [take_snoc (k := k + 1) h, take_snoc hx]
  unfold textF
  have e : (r.take k ++ [x] ++ [10]).length - 2 = (r.take k).length := by simp
  rw [e, List.append_assoc, List.drop_left, List.take_left]
  by_cases h13 : x = 13
  · rw [h13, if_pos rfl]
    exact if_pos rfl
  · rw [if_neg h13, if_neg (by simpa using h13)]
theorem no_snoc {r : Bs} {k : Nat} {x : UInt8} (h : (10 : UInt8) ∉ r.take k) (hx : r[k]? = some x) (h10 : x ≠ 10) : (10 : UInt8) ∉ r.take (k + 1) := by
  rw [take_snoc hx]
  intro hm
  rcases List.mem_append.1 hm with h1 | h1
  · exact h h1
  · exact h10 (List.mem_singleton.1 h1).symm
def Lined (s : Bs) (p : Nat) (w : World) (e : Ending) (w' : World) : Prop :=
  w = w' ∧ ∃ t next E, LineR (s.drop p) p t next E ∧ e = .returned (.tuple #[.string ⟨t.toArray⟩, .int .i64 next, .int .i64 E])

set_option maxRecDepth 20000 in
set_option maxHeartbeats 8000000 in
theorem Rline_any {w : World} {A : Option Addr} {n c : Nat} {s : Bs} (h : Rd w 1 A n c (s.map b8)) (hn : n ≤ 1048576) (p : Nat) (hp : p ≤ n) :
    Calls Tryz.prog 38 #[.slice A n c, .int .i64 (p : Int)] w (Lined s p w) := by
  have hl := h.lenb
  have HL := Lib.hid hl
  have hle := h.le
  clear hl
  go_enter Tryz.func38, Tryz.ntmps38
  go_wp2_with fail
  go_loopw [7] (fun i wr => ∃ k : Nat, k ≤ 1023 ∧ p + k ≤ n ∧ i = .int .i64 ((p + k : Nat) : Int) ∧ w = wr ∧ Hid ((10 : UInt8) ∉ (s.drop p).take k)) (fun i _ => n - (intOf i).toNat)
  case atStart => exact ⟨0, by omega, by omega, rfl, rfl, (show (10 : UInt8) ∉ (s.drop p).take 0 by simp)⟩
  case round =>
    obtain ⟨k, hk, hkn, rfl, rfl, hH⟩ := hrel
    obtain ⟨i, hi⟩ : ∃ i, p + k = i := ⟨_, rfl⟩
    rw [hi] at hkn ⊢
    by_cases hlt : i < n
    · obtain ⟨x, hx, hidx, hcell, hxb⟩ := h.byteAt eb (i : Int) i rfl hlt
      have hxr : (s.drop p)[k]? = some x := by
        rw [List.getElem?_drop, hi]
        exact hx.out
      have HX := Lib.hid hxr
      have hi' : (i : Int) < n := by omega
      by_cases hx10 : x = 10
      · subst hx10
        by_cases hk0 : k = 0
        · subst hk0
          have hip : ((i : Int) == (p : Int)) = true := by rw [beq_iff_eq]; omega
          have HI := Lib.hid hi
          clear hx hxr hlt hi hk
          go_wp2_with fail
          go_ret3
          refine ⟨rfl, [], _, 4, .bad 0 (by omega) HX.out (by simp) (text_zero HX.out), ?_⟩
          have := HI.out
          rw [show ((p + 0 + 1 : Nat) : Int) = (i : Int) + 1 by omega]
          rfl
        · obtain ⟨q, rfl⟩ : ∃ q, k = q + 1 := ⟨k - 1, by omega⟩
          have hip : ((i : Int) == (p : Int)) = false := by rw [beq_eq_false_iff_ne]; omega
          obtain ⟨y, hy, hidy, hcely, hyb⟩ := h.byteAt eb ((i : Int) - 1) (i - 1) (by omega) (by omega)
          have hyr : (s.drop p)[q]? = some y := by
            rw [List.getElem?_drop, show p + q = i - 1 by omega]
            exact hy.out
          have ht := text_at HX.out hyr
          have HI := Lib.hid hi
          by_cases hy13 : y = 13
          · subst hy13
            rw [if_pos rfl] at ht
            have HT := Lib.hid ht
            have hsl := run_slice_lh_rd (P := Tryz.prog) (A := A) (n := n) (c := c) eb (kl := .i64) (kh := .i64) p (i - 1) (L := (p : Int)) (H := (i : Int) - 1) rfl (by omega) (by omega) (by omega)
            have hrd : Rd w 1 (cutA A c p 1) (i - 1 - p) (c - p) (((s.drop p).take q).map b8) := by
              have h1 := h.cut (lo := p) (hi := i - 1) (by omega) (by omega)
              rw [Nat.mul_one, Nat.mul_one, ← List.map_drop, ← List.map_take, show i - 1 - p = q by omega] at h1
              rw [show i - 1 - p = q by omega]
              exact h1
            have HK := Lib.hid hk
            have hstr := run_str_rd (P := Tryz.prog) (dst := 9) eb Tryz.underlying5 Tryz.underlying9 hrd
            clear hx hxr hy hyr hlt hi hk hk0 ht hrd
            go_wp2_with fail
            go_ret3
            refine ⟨rfl, _, _, 0, .ok (q + 1) _ HK.out HX.out hH.out HT.out, ?_⟩
            have := HI.out
            rw [show ((p + (q + 1) + 1 : Nat) : Int) = (i : Int) + 1 by omega]
            rfl
          · rw [if_neg hy13] at ht
            have HT := Lib.hid ht
            have hd : ((y.toNat : Int) != 13) = true := by
              rw [bne_iff_ne]
              intro e
              exact hy13 (UInt8.toNat_inj.1 (by show y.toNat = 13; omega))
            have HK := Lib.hid hk
            clear hx hxr hy hyr hlt hi hk hk0 ht hy13
            go_wp2_with fail
            go_ret3
            refine ⟨rfl, [], _, 4, .bad (q + 1) HK.out HX.out hH.out HT.out, ?_⟩
            have := HI.out
            rw [show ((p + (q + 1) + 1 : Nat) : Int) = (i : Int) + 1 by omega]
            rfl
      · have hd : ((x.toNat : Int) == 10) = false := by
          rw [beq_eq_false_iff_ne]
          intro e
          exact hx10 (UInt8.toNat_inj.1 (by show x.toNat = 10; omega))
        have HNO := Lib.hid (no_snoc hH.out hxr hx10)
        have HI := Lib.hid hi
        have hlr : k < (s.drop p).length := (List.getElem?_eq_some_iff.1 hxr).1
        by_cases hk1 : k = 1023
        · have hd2 : ((i : Int) - (p : Int) == 1023) = true := by rw [beq_iff_eq]; omega
          subst hk1
          have HLR := Lib.hid hlr
          clear hx hxr hlt hi hk hlr hx10
          go_wp2_with fail
          go_ret3
          refine ⟨rfl, [], _, 2, .long HNO.out HLR.out, ?_⟩
          have := HI.out
          rw [show ((p + 1024 : Nat) : Int) = (i : Int) + 1 by omega]
          rfl
        · have hd2 : ((i : Int) - (p : Int) == 1023) = false := by rw [beq_eq_false_iff_ne]; omega
          have HK := Lib.hid (show k + 1 ≤ 1023 by omega)
          clear hx hxr hlt hi hk hlr hx10 hk1
          go_wp2_with fail
          go_roundw
          case rel => exact ⟨k + 1, HK.out, by have := HI.out; omega, by have := HI.out; rw [show p + (k + 1) = i + 1 by omega]; go_num, by trivial, HNO.out⟩
          case measure => simp [intOf]; omega
    · obtain rfl : i = n := by omega
      have HI := Lib.hid hi
      have HK := Lib.hid hk
      clear hlt hi hk
      go_wp2_with fail
      go_ret3
      have h1 : (s.drop p).length = k := by rw [List.length_drop, HL.out]; have := HI.out; omega
      have h2 := hH.out
      rw [List.take_of_length_le (by omega)] at h2
      exact ⟨rfl, [], -1, 0, .open_ h2 (by have := HK.out; omega), rfl⟩

end Go.Proofs.YtckkmdigmecagaaGreatDoor

/-
  Plain: lines of a head, as a wire takes them.
-/
namespace Go.Proofs.YtckkmdigmecagaaGreatDoor
open Go.RowKit

/-- A line's text is looked at. -/
def judgeS (w : WSt) (s : Bs) : Int × WSt :=
  if w.nx = 1 then (match firstF s with
    | none => (4, w)
    | some (m, t) => (0, { w with m := m, t := t, fs := [], kp := true, nx := 2 }))
  else if s = [] then (match emptyF w.fs with
    | (0, some st) => (0, { w with kp := w.kp && !closesF w.fs, bo := some st, nx := 3 })
    | (e, _) => (e, w))
  else if w.fs.length = 32 then (2, w)
  else ((Fl.lineR s).2.2, { w with fs := w.fs ++ [((Fl.lineR s).1, (Fl.lineR s).2.1)] })
theorem judge_text {w : WSt} {b s : Bs} (h : textF b = some s) : judgeF w b = judgeS w s := by
  unfold judgeF
  rw [h]
  rfl
theorem judge_none {w : WSt} {b : Bs} (h : textF b = none) : judgeF w b = (4, w) := by
  unfold judgeF
  rw [h]
theorem after_bad {E : Int} {w : WSt} {l : Bs} (h : E ≠ 0) : afterL (E, w) l = ([], badW, E) := if_pos h
/-- A line, as a wire takes it. -/
theorem line_feed {r : Bs} {p : Nat} {t : Bs} {next E : Int} (h : LineR r p t next E) {x : WSt} (hb : x.bo = none) (h4 : x.nx ≠ 4) (hl : x.ln = []) :
    (E = 0 ∧ next = -1 ∧ feedW x r = ([], { x with ln := r }, 0)) ∨ (E ≠ 0 ∧ (∃ q : Nat, next = (q : Int)) ∧ feedW x r = ([], badW, E)) ∨ (E = 0 ∧ ∃ k : Nat, k + 1 ≤ r.length ∧ next = ((p + k + 1 : Nat) : Int) ∧ t.length ≤ k ∧ k ≤ 1023 ∧ feedW x r = afterL (judgeS x t) (r.drop (k + 1))) := by
  cases h with
  | open_ h1 h2 =>
    refine .inl ⟨rfl, rfl, ?_⟩
    rw [feed_open r x hb h4 h1 (by rw [hl]; simpa using h2), hl]
    rfl
  | long h1 h2 =>
    refine .inr (.inl ⟨by decide, ⟨_, rfl⟩, ?_⟩)
    exact feed_long r x hb h4 (by rw [hl]; simp) (by rw [hl]; exact h1) (by rw [hl]; simpa using h2)
  | bad k h1 h2 h3 h5 =>
    refine .inr (.inl ⟨by decide, ⟨_, rfl⟩, ?_⟩)
    rw [feed_line r x k hb h4 h2 h3 (by rw [hl]; simpa using h1), hl, List.nil_append, judge_none h5]
    exact after_bad (by decide)
  | ok k t h1 h2 h3 h5 =>
    have hk := (List.getElem?_eq_some_iff.1 h2).1
    refine .inr (.inr ⟨rfl, k, hk, rfl, ?_, h1, ?_⟩)
    · unfold textF at h5
      split at h5
      · rw [← Option.some.inj h5, List.length_take, List.length_take]
        omega
      · cases h5
    · rw [feed_line r x k hb h4 h2 h3 (by rw [hl]; simpa using h1), hl, List.nil_append, judge_text h5]
/-- A wire within a head. -/
def hdW (M T : Bs) (fs : List Fl.Fd) : WSt := ⟨2, [], M, T, fs, true, none⟩
theorem after_hd {y : WSt} {l : Bs} (hb : y.bo = none) : afterL (0, y) l = feedW { y with ln := [] } l := by
  unfold afterL
  rw [if_neg (by simp)]
  dsimp only
  rw [whole_none (x := { y with ln := [] }) hb]
  simp
theorem first_feed {t : Bs} {l : Bs} : (firstF t = none → afterL (judgeS newW t) l = ([], badW, 4)) ∧ ∀ M T, firstF t = some (M, T) → afterL (judgeS newW t) l = feedW (hdW M T []) l := by
  refine ⟨fun h => ?_, fun M T h => ?_⟩
  · unfold judgeS
    rw [if_pos (by rfl), h]
    exact after_bad (by decide)
  · unfold judgeS
    rw [if_pos (by rfl), h]
    dsimp only
    rw [after_hd rfl]
    rfl
/-- The line that ends a head. -/
def emptyJ (M T : Bs) (fs : List Fl.Fd) : Int × WSt := match emptyF fs with
  | (0, some st) => (0, ⟨3, [], M, T, fs, !closesF fs, some st⟩)
  | (e, _) => (e, hdW M T fs)
theorem empty_feed {M T : Bs} {fs : List Fl.Fd} : judgeS (hdW M T fs) [] = emptyJ M T fs := by
  unfold judgeS emptyJ
  rw [if_neg (by show ¬ (2 : Nat) = 1; decide), if_pos rfl]
  show (match emptyF fs with | (0, some st) => _ | (e, _) => _) = _
  generalize emptyF fs = r
  obtain ⟨E, o⟩ := r
  split
  · rename_i heq
    obtain ⟨rfl, rfl⟩ := Prod.mk.inj heq
    rfl
  · rename_i h1 heq
    obtain ⟨rfl, rfl⟩ := Prod.mk.inj heq
    rfl
theorem line_long {M T t : Bs} {fs : List Fl.Fd} {l : Bs} (ht : t ≠ []) (h : fs.length = 32) : afterL (judgeS (hdW M T fs) t) l = ([], badW, 2) := by
  unfold judgeS
  rw [if_neg (by show ¬ (2 : Nat) = 1; decide), if_neg ht, if_pos (by exact h)]
  exact after_bad (by decide)
theorem line_two (s : Bs) : (Fl.lineR s).2.2 = 0 ∨ (Fl.lineR s).2.2 = 4 := by
  unfold Fl.lineR
  split
  · exact .inl rfl
  · exact .inr rfl
theorem line_field {M T t : Bs} {fs : List Fl.Fd} {l : Bs} (ht : t ≠ []) (h : fs.length ≠ 32) : ((Fl.lineR t).2.2 ≠ 0 → afterL (judgeS (hdW M T fs) t) l = ([], badW, 4)) ∧ ((Fl.lineR t).2.2 = 0 → afterL (judgeS (hdW M T fs) t) l = feedW (hdW M T (fs ++ [((Fl.lineR t).1, (Fl.lineR t).2.1)])) l) := by
  have hj : judgeS (hdW M T fs) t = ((Fl.lineR t).2.2, { hdW M T fs with fs := fs ++ [((Fl.lineR t).1, (Fl.lineR t).2.1)] }) := by
    unfold judgeS
    rw [if_neg (by show ¬ (2 : Nat) = 1; decide), if_neg ht, if_neg (by exact h)]
    rfl
  rw [hj]
  refine ⟨fun he => ?_, fun he => ?_⟩
  · rw [after_bad he]
    rcases line_two t with h1 | h1
    · exact absurd h1 he
    · rw [h1]
  · rw [he, after_hd rfl]
    rfl

end Go.Proofs.YtckkmdigmecagaaGreatDoor

/-
  The document's first line.
-/
namespace Go.Proofs.YtckkmdigmecagaaGreatDoor
open Go.RowKit

def verS : Bs := [32, 72, 84, 84, 80, 47, 49, 46, 49]
theorem cut1_of (c : UInt8) : ∀ (a b : Bs), c ∉ a → cut1 c (a ++ c :: b) = (a, b, true)
  | [], b, _ => by simp [cut1]
  | x :: a, b, h => by
    have hx : x ≠ c := fun e => h (by simp [e])
    rw [List.cons_append, cut1, if_neg hx, cut1_of c a b (fun hm => h (by simp [hm]))]
theorem no_up {a : Bs} (h : a.all upB = true) : (32 : UInt8) ∉ a := by
  intro hm
  have := List.all_eq_true.1 h 32 hm
  simp [upB] at this
theorem no_vi {a : Bs} (h : a.all viB = true) : (32 : UInt8) ∉ a := by
  intro hm
  have := List.all_eq_true.1 h 32 hm
  simp [viB] at this
/-- What the document asks of a first line whose great letters end at n. -/
def DocF (s : Bs) (n : Nat) : Prop := 1 ≤ n ∧ n ≤ 10 ∧ n + 11 ≤ s.length ∧ s[n]? = some 32 ∧ s.drop (s.length - 9) = verS ∧ ((s.drop (n + 1)).take (s.length - 9 - (n + 1))).all viB = true
theorem docF_yes {s : Bs} {n : Nat} (h : DocF s n) (hu : (s.take n).all upB = true) : firstF s = some (s.take n, (s.drop (n + 1)).take (s.length - 9 - (n + 1))) := by
  obtain ⟨h1, h2, h3, h4, h5, h6⟩ := h
  obtain ⟨t, ht⟩ : ∃ t, (s.drop (n + 1)).take (s.length - 9 - (n + 1)) = t := ⟨_, rfl⟩
  have hs : s = s.take n ++ 32 :: (t ++ 32 :: verW) := by
    have e1 : s = s.take n ++ s.drop n := (List.take_append_drop n s).symm
    have e2 : s.drop n = 32 :: s.drop (n + 1) := by
      obtain ⟨q1, q2⟩ := List.getElem?_eq_some_iff.1 h4
      rw [List.drop_eq_getElem_cons q1, q2]
    have e3 : s.drop (n + 1) = t ++ s.drop (s.length - 9) := by
      rw [← ht]
      conv => lhs; rw [← List.take_append_drop (s.length - 9 - (n + 1)) (s.drop (n + 1))]
      rw [List.drop_drop, show n + 1 + (s.length - 9 - (n + 1)) = s.length - 9 by omega]
    rw [e2, e3, h5] at e1
    exact e1
  rw [ht] at h6 ⊢
  have c1 : cut1 32 s = (s.take n, t ++ 32 :: verW, true) := by
    conv => lhs; rw [hs]
    exact cut1_of 32 _ _ (no_up hu)
  have c2 := cut1_of 32 t verW (no_vi h6)
  have hl : (s.take n).length = n := by rw [List.length_take]; omega
  have hlt : t.length = s.length - 9 - (n + 1) := by rw [← ht, List.length_take, List.length_drop]; omega
  have hfp : FirstP s := by
    unfold FirstP
    rw [c1]
    dsimp only
    rw [c2]
    refine ⟨rfl, rfl, rfl, by omega, by omega, fun e => ?_, hu, h6⟩
    have e' : t = [] := e
    rw [e'] at hlt
    simp at hlt
    omega
  unfold firstF
  rw [if_pos hfp, c1]
  dsimp only
  rw [c2]
theorem docF_no {s : Bs} {n : Nat} (hu : (s.take n).all upB = true) (he : n ≤ s.length) (hx : ∀ x, s[n]? = some x → upB x = false) (h : ¬ DocF s n) : firstF s = none := by
  unfold firstF
  refine if_neg fun hf => h ?_
  obtain ⟨f1, f2, f3, f4, f5, f6, f7, f8⟩ := hf
  have a1 := cut1_app 32 s f1
  have a2 := cut1_app 32 _ f2
  obtain ⟨⟨M, R, q⟩, hX⟩ : ∃ X, cut1 32 s = X := ⟨_, rfl⟩
  rw [hX] at f2 f3 f4 f5 f6 f7 f8 a1 a2
  dsimp only at f2 f3 f4 f5 f6 f7 f8 a1 a2
  obtain ⟨⟨T, V, q2⟩, hY⟩ : ∃ Y, cut1 32 R = Y := ⟨_, rfl⟩
  rw [hY] at f3 f6 f8 a2
  dsimp only at f3 f6 f8 a2
  subst f3
  have hn : n = M.length := by
    rcases Nat.lt_trichotomy n M.length with hlt | heq | hgt
    · have e1 : s[n]? = some M[n] := by
        rw [a1, List.getElem?_append_left hlt, List.getElem?_eq_getElem hlt]
      have e2 := hx _ e1
      rw [List.all_eq_true.1 f7 _ (List.getElem_mem hlt)] at e2
      cases e2
    · exact heq
    · have e1 : (s.take n)[M.length]? = some 32 := by
        rw [List.getElem?_take_of_lt hgt, a1, List.getElem?_append_right (Nat.le_refl _), Nat.sub_self]
        rfl
      have e2 := List.all_eq_true.1 hu _ (List.mem_of_getElem? e1)
      simp [upB] at e2
  have hT : 1 ≤ T.length := by
    cases T with
    | nil => exact absurd rfl f6
    | cons x T => simp
  have hv : verW.length = 8 := rfl
  have hsl : s.length = M.length + 1 + T.length + 9 := by
    rw [a1, a2]
    simp only [List.length_append, List.length_cons, hv]
    omega
  refine ⟨by omega, by omega, by omega, ?_, ?_, ?_⟩
  · rw [a1, hn, List.getElem?_append_right (Nat.le_refl _), Nat.sub_self]
    rfl
  · have e1 : s = (M ++ 32 :: T) ++ verS := by
      rw [a1, a2]
      simp [verS, verW]
    rw [show s.length - 9 = (M ++ 32 :: T).length by simp; omega]
    conv => lhs; rw [e1]
    exact List.drop_left
  · have e1 : s = (M ++ [32]) ++ (T ++ 32 :: verW) := by
      rw [a1, a2]
      simp
    have e2 : s.drop (n + 1) = T ++ 32 :: verW := by
      rw [show n + 1 = (M ++ [32]).length by simp; omega]
      conv => lhs; rw [e1]
      exact List.drop_left
    rw [e2, show s.length - 9 - (n + 1) = T.length by omega, List.take_left]
    exact f8

theorem build_req3 (M T : Bs) (W : World) : (Instr.build 42 #[(0, .string ⟨M.toArray⟩), (1, .string ⟨T.toArray⟩), (4, .bool true)]).run Tryz.prog W = .ok (.agg (reqA M T none 0 0 none 0 0 true)) W := by kernel_rfl
set_option maxRecDepth 20000 in
set_option maxHeartbeats 8000000 in
theorem Rfirst_any (s : Bs) (hs : s.length ≤ 1048576) (w : World) : Calls Tryz.prog 39 #[.string ⟨s.toArray⟩] w (Firsted s w) := by
  have hsz := size_mk s
  obtain ⟨N, hN⟩ : ∃ N, s.length = N := ⟨_, rfl⟩
  have HN := Lib.hid hN
  rw [hN] at hsz hs
  clear hN
  go_enter Tryz.func39, Tryz.ntmps39
  go_wp2_with (refine wpList_alloc_zero rfl _ rfl reqZ zero_req ?_; intro w1 hg1 hb1 hz1; clear hz1)
  have HBAD := Lib.hid (fun (h : firstF s = none) (wz : World) (hg : w1.grownBy wz (some w.heap.size)) => (show Firsted s w (.returned (.tuple #[.agg reqZ, .bool false])) wz from ⟨hb1.grown hg hb1.size (fun q hq => by obtain rfl := Option.some.inj hq; exact Nat.le_refl _), .inl ⟨h, rfl⟩⟩))
  have HOKY := Lib.hid (fun (M T : Bs) (h : firstF s = some (M, T)) (wz : World) (hg : w1.grownBy wz (some w.heap.size)) => (show Firsted s w (.returned (.tuple #[.agg (reqA M T none 0 0 none 0 0 true), .bool true])) wz from ⟨hb1.grown hg hb1.size (fun q hq => by obtain rfl := Option.some.inj hq; exact Nat.le_refl _), .inr ⟨M, T, h, rfl⟩⟩))
  clear hb1
  go_loopw [4] (fun i wr => ∃ k : Nat, k ≤ N ∧ i = .int .i64 k ∧ w1 = wr ∧ Hid (∀ (j : Nat) x, j < k → s[j]? = some x → upB x = true)) (fun i _ => N - (intOf i).toNat)
  case atStart => exact ⟨0, by omega, rfl, rfl, (show ∀ (j : Nat) x, j < 0 → _ from fun j x h => absurd h (by omega))⟩
  case round =>
    obtain ⟨k, hk, rfl, rfl, hH⟩ := hrel
    by_cases hup : ∃ x, s[k]? = some x ∧ upB x = true
    · obtain ⟨x, hx, hu⟩ := hup
      have hka : k < N := by have := (List.getElem?_eq_some_iff.1 hx).1; have := HN.out; omega
      have hi : ∀ W, (Instr.index 9 (.string ⟨s.toArray⟩) (.int .i64 (k : Int))).run Tryz.prog W = .ok (.int .u8 (x.toNat : Int)) W := fun W => run_str_at (P := Tryz.prog) Tryz.underlying9 s k x hx (kl := .i64) W
      have hk' : (k : Int) < N := by omega
      have hxb : (x.toNat : Int) ≤ 255 := by have := x.toNat_lt; omega
      rcases up_case x with ⟨c1, hu'⟩ | ⟨c1, c2, hu'⟩ | ⟨c1, c2, hu'⟩
      · rw [hu] at hu'
        cases hu'
      · rw [hu] at hu'
        cases hu'
      · have e1 : decide (65 ≤ (x.toNat : Int)) = true := decide_eq_true c1
        have e2 : decide ((x.toNat : Int) ≤ 90) = true := decide_eq_true c2
        have HNX : Hid (∀ (j : Nat) y, j < k + 1 → s[j]? = some y → upB y = true) := fun j y hj hy => by
          by_cases hjk : j < k
          · exact hH.out j y hjk hy
          · obtain rfl : j = k := by omega
            rw [hx] at hy
            rw [← Option.some.inj hy]
            exact hu
        clear hx hka hH c1 c2 hu hu'
        go_wp2_with fail
        go_roundw
        case rel => exact ⟨k + 1, by omega, by go_num, by trivial, HNX⟩
        case measure => simp [intOf]; omega
    · have hnup : ∀ x, s[k]? = some x → upB x = false := fun x hx => by
        cases hu : upB x with
        | false => rfl
        | true => exact absurd ⟨x, hx, hu⟩ hup
      have htk : (s.take k).all upB = true := by
        rw [List.all_eq_true]
        intro y hy
        obtain ⟨j, hj⟩ := List.mem_iff_getElem?.1 hy
        have hjk : j < k := by have := (List.getElem?_eq_some_iff.1 hj).1; rw [List.length_take] at this; omega
        rw [List.getElem?_take_of_lt hjk] at hj
        exact hH.out j y hjk hj
      have HNO := Lib.hid (fun h : ¬ DocF s k => docF_no htk (by have := HN.out; omega) hnup h)
      have HYS := Lib.hid (fun h : DocF s k => docF_yes h htk)
      unfold DocF at HNO HYS
      rw [HN.out] at HNO HYS
      have HNU := Lib.hid hnup
      clear hup hH htk hnup
      have hstop : (¬ (k : Int) < N) ∨ ∃ x, s[k]? = some x ∧ (k : Int) < N ∧ (((x.toNat : Int) < 65) ∨ (65 ≤ (x.toNat : Int) ∧ 90 < (x.toNat : Int))) := by
        by_cases hka : k < N
        · have hkl : k < s.length := by rw [HN.out]; exact hka
          refine .inr ⟨s[k], List.getElem?_eq_getElem hkl, by omega, ?_⟩
          rcases up_case s[k] with ⟨c1, hu'⟩ | ⟨c1, c2, hu'⟩ | ⟨c1, c2, hu'⟩
          · exact .inl c1
          · exact .inr ⟨c1, c2⟩
          · have := HNU.out _ (List.getElem?_eq_getElem hkl)
            rw [hu'] at this
            cases this
        · exact .inl (by omega)
      go_upto_region 2 with fail
      go_cut [22] from 7 to 24 (fun v wx => v = .bool false ∧ w1 = wx)
      case first =>
        rcases hstop with h1 | ⟨x, hx, hk', h2⟩
        · go_wp2_with fail
          go_meet
          exact ⟨rfl, rfl⟩
        · have hi : ∀ W, (Instr.index 9 (.string ⟨s.toArray⟩) (.int .i64 (k : Int))).run Tryz.prog W = .ok (.int .u8 (x.toNat : Int)) W := fun W => run_str_at (P := Tryz.prog) Tryz.underlying9 s k x hx (kl := .i64) W
          have hxb : (x.toNat : Int) ≤ 255 := by have := x.toNat_lt; omega
          rcases h2 with h2 | ⟨h2, h3⟩
          · have e1 : decide (65 ≤ (x.toNat : Int)) = false := decide_eq_false (by omega)
            clear h2 hx
            go_wp2_with fail
            go_meet
            exact ⟨rfl, rfl⟩
          · have e1 : decide (65 ≤ (x.toNat : Int)) = true := decide_eq_true h2
            have e2 : decide ((x.toNat : Int) ≤ 90) = false := decide_eq_false (by omega)
            clear h2 h3 hx
            go_wp2_with fail
            go_meet
            exact ⟨rfl, rfl⟩
      case rest =>
        obtain ⟨rfl, rfl⟩ := hcut
        clear hstop
        by_cases a1 : k < 1
        · have HE := Lib.hid (HNO.out fun h => by have := h.1; omega)
          have d1 : decide ((k : Int) < 1) = true := decide_eq_true (by omega)
          clear a1
          go_wp2_with (first
            | (refine wpList_build_run rfl _ _ rfl #[] (by rfl) _ (build_req0 _) ?_)
            | (refine wpList_store_all rfl _ _ _ rfl w.heap.size rfl _ reqZ reqZ rfl hg1 size_req rfl req_one ?_; intro wz hgz hgrz hzz; clear hzz))
          refine bodyPost_ret (results_cell_tmp rfl _ _ w.heap.size _ _ _ _ rfl hgz Tryz.underlying42 rfl size_req _ rfl) rfl ?_
          exact HBAD.out HE.out wz hgrz
        have d1 : decide ((k : Int) < 1) = false := decide_eq_false (by omega)
        by_cases a2 : 10 < k
        · have HE := Lib.hid (HNO.out fun h => by have := h.2.1; omega)
          have d2 : decide ((10 : Int) < k) = true := decide_eq_true (by omega)
          clear a1 a2
          go_wp2_with (first
            | (refine wpList_build_run rfl _ _ rfl #[] (by rfl) _ (build_req0 _) ?_)
            | (refine wpList_store_all rfl _ _ _ rfl w.heap.size rfl _ reqZ reqZ rfl hg1 size_req rfl req_one ?_; intro wz hgz hgrz hzz; clear hzz))
          refine bodyPost_ret (results_cell_tmp rfl _ _ w.heap.size _ _ _ _ rfl hgz Tryz.underlying42 rfl size_req _ rfl) rfl ?_
          exact HBAD.out HE.out wz hgrz
        have d2 : decide ((10 : Int) < k) = false := decide_eq_false (by omega)
        have hw1 : IntKind.i64.wrap ((k : Int) + 2) = (k : Int) + 2 := IntWalk.i64_in _ (by omega)
        by_cases a3 : N < k + 11
        · have HE := Lib.hid (HNO.out fun h => by have := h.2.2.1; omega)
          have d3 : decide ((N : Int) < (k : Int) + 2 + 9) = true := decide_eq_true (by omega)
          clear a1 a2 a3
          go_wp2_with (first
            | (refine wpList_build_run rfl _ _ rfl #[] (by rfl) _ (build_req0 _) ?_)
            | (refine wpList_store_all rfl _ _ _ rfl w.heap.size rfl _ reqZ reqZ rfl hg1 size_req rfl req_one ?_; intro wz hgz hgrz hzz; clear hzz))
          refine bodyPost_ret (results_cell_tmp rfl _ _ w.heap.size _ _ _ _ rfl hgz Tryz.underlying42 rfl size_req _ rfl) rfl ?_
          exact HBAD.out HE.out wz hgrz
        have d3 : decide ((N : Int) < (k : Int) + 2 + 9) = false := decide_eq_false (by omega)
        have hkl : k < s.length := by rw [HN.out]; omega
        have hx : s[k]? = some (s[k]'hkl) := List.getElem?_eq_getElem hkl
        generalize s[k]'hkl = x at hx
        have hi : ∀ W, (Instr.index 9 (.string ⟨s.toArray⟩) (.int .i64 (k : Int))).run Tryz.prog W = .ok (.int .u8 (x.toNat : Int)) W := fun W => run_str_at (P := Tryz.prog) Tryz.underlying9 s k x hx (kl := .i64) W
        have hxb : (x.toNat : Int) ≤ 255 := by have := x.toNat_lt; omega
        have HX := Lib.hid hx
        clear hx hkl
        by_cases a4 : x = 32
        · have d4 : ((x.toNat : Int) != 32) = false := by rw [a4]; rfl
          obtain ⟨Q, hQ⟩ : ∃ Q, N - 9 = Q := ⟨_, rfl⟩
          have hw3 : IntKind.i64.wrap ((N : Int) - 9) = (Q : Int) := by rw [IntWalk.i64_in _ (by omega)]; omega
          have hs9 : ∀ W, (Instr.sliceAt 9 (.string ⟨s.toArray⟩) (some (.int .i64 (Q : Int))) none none).run Tryz.prog W = .ok (.string ⟨(s.drop Q).toArray⟩) W := fun W => run_str_l Tryz.underlying9 s Q (by rw [HN.out]; omega) W
          by_cases a5 : s.drop Q = verS
          · have d5 : (s.drop Q == [32, 72, 84, 84, 80, 47, 49, 46, 49]) = true := by rw [a5]; rfl
            have hsl : ∀ W, (Instr.sliceAt 9 (.string ⟨s.toArray⟩) (some (.int .i64 ((k : Int) + 1))) (some (.int .i64 (Q : Int))) none).run Tryz.prog W = .ok (.string ⟨((s.drop (k + 1)).take (Q - (k + 1))).toArray⟩) W := fun W => run_str_lh Tryz.underlying9 s (k + 1) Q (by omega) (by rw [HN.out]; omega) (by omega) rfl W
            have hlt : ((s.drop (k + 1)).take (Q - (k + 1))).length = Q - (k + 1) := by
              rw [List.length_take, List.length_drop, HN.out]
              omega
            rw [hQ] at HNO HYS
            obtain ⟨t, ht⟩ : ∃ t, (s.drop (k + 1)).take (Q - (k + 1)) = t := ⟨_, rfl⟩
            rw [ht] at hsl HNO HYS hlt
            have hszt := size_mk t
            obtain ⟨L, hL⟩ : ∃ L, t.length = L := ⟨_, rfl⟩
            rw [hL] at hszt hlt
            have HLT := Lib.hid hL
            have hLb : L ≤ 1048576 := by omega
            have HF5 := Lib.hid (show 1 ≤ k ∧ k ≤ 10 ∧ k + 11 ≤ N ∧ s[k]? = some 32 ∧ s.drop Q = verS from ⟨by omega, by omega, by omega, by rw [HX.out, a4], a5⟩)
            have hst : ∀ W, (Instr.sliceAt 9 (.string ⟨s.toArray⟩) none (some (.int .i64 (k : Int))) none).run Tryz.prog W = .ok (.string ⟨(s.take k).toArray⟩) W := fun W => run_str_h Tryz.underlying9 s k (by rw [HN.out]; omega) W
            clear a1 a2 a3 a4 a5 hQ ht hL hlt
            go_wp2_with fail
            clear d1 d2 d3 d4 d5 hw1 hw3 hs9 hsl hi
            go_loopw [6] (fun i wr => ∃ j : Nat, j ≤ L ∧ i = .int .i64 j ∧ w1 = wr ∧ Hid (∀ (q : Nat) x, q < j → t[q]? = some x → viB x = true)) (fun i _ => L - (intOf i).toNat)
            case atStart => exact ⟨0, by omega, rfl, rfl, (show ∀ (j : Nat) x, j < 0 → _ from fun j x h => absurd h (by omega))⟩
            case round =>
              obtain ⟨j, hj, rfl, rfl, hH⟩ := hrel
              by_cases hja : j < L
              · have hjl : j < t.length := by rw [HLT.out]; exact hja
                have hy : t[j]? = some (t[j]'hjl) := List.getElem?_eq_getElem hjl
                generalize t[j]'hjl = y at hy
                have hi : ∀ W, (Instr.index 9 (.string ⟨t.toArray⟩) (.int .i64 (j : Int))).run Tryz.prog W = .ok (.int .u8 (y.toNat : Int)) W := fun W => run_str_at (P := Tryz.prog) Tryz.underlying9 t j y hy (kl := .i64) W
                have hj' : (j : Int) < L := by omega
                have hyb : (y.toNat : Int) ≤ 255 := by have := y.toNat_lt; omega
                have HY := Lib.hid hy
                rcases vi_case y with ⟨c1, hu⟩ | ⟨c1, c2, hu⟩ | ⟨c1, c2, hu⟩
                · have HE := Lib.hid (HNO.out fun h => all_ne HY.out hu h.2.2.2.2.2)
                  have e1 : decide ((y.toNat : Int) < 33) = true := decide_eq_true c1
                  clear hy hja hjl hH c1 hu
                  go_wp2_with (first
                    | (refine wpList_build_run rfl _ _ rfl #[] (by rfl) _ (build_req0 _) ?_)
                    | (refine wpList_store_all rfl _ _ _ rfl w.heap.size rfl _ reqZ reqZ rfl hg1 size_req rfl req_one ?_; intro wz hgz hgrz hzz; clear hzz))
                  refine bodyPost_ret (results_cell_tmp rfl _ _ w.heap.size _ _ _ _ rfl hgz Tryz.underlying42 rfl size_req _ rfl) rfl ?_
                  exact HBAD.out HE.out wz hgrz
                · have HE := Lib.hid (HNO.out fun h => all_ne HY.out hu h.2.2.2.2.2)
                  have e1 : decide ((y.toNat : Int) < 33) = false := decide_eq_false (by omega)
                  have e2 : decide (126 < (y.toNat : Int)) = true := decide_eq_true c2
                  clear hy hja hjl hH c1 c2 hu
                  go_wp2_with (first
                    | (refine wpList_build_run rfl _ _ rfl #[] (by rfl) _ (build_req0 _) ?_)
                    | (refine wpList_store_all rfl _ _ _ rfl w.heap.size rfl _ reqZ reqZ rfl hg1 size_req rfl req_one ?_; intro wz hgz hgrz hzz; clear hzz))
                  refine bodyPost_ret (results_cell_tmp rfl _ _ w.heap.size _ _ _ _ rfl hgz Tryz.underlying42 rfl size_req _ rfl) rfl ?_
                  exact HBAD.out HE.out wz hgrz
                · have e1 : decide ((y.toNat : Int) < 33) = false := decide_eq_false (by omega)
                  have e2 : decide (126 < (y.toNat : Int)) = false := decide_eq_false (by omega)
                  have HNX : Hid (∀ (q : Nat) z, q < j + 1 → t[q]? = some z → viB z = true) := fun q z hq hz => by
                    by_cases hqj : q < j
                    · exact hH.out q z hqj hz
                    · obtain rfl : q = j := by omega
                      rw [hy] at hz
                      rw [← Option.some.inj hz]
                      exact hu
                  clear hy hja hjl hH c1 c2 hu
                  go_wp2_with fail
                  go_roundw
                  case rel => exact ⟨j + 1, by omega, by go_num, by trivial, HNX⟩
                  case measure => simp [intOf]; omega
              · obtain rfl : j = L := by omega
                have hvi := all_yes fun k x h => hH.out k x (by have := (List.getElem?_eq_some_iff.1 h).1; have := HLT.out; omega) h
                have HE := Lib.hid (HYS.out ⟨HF5.out.1, HF5.out.2.1, HF5.out.2.2.1, HF5.out.2.2.2.1, HF5.out.2.2.2.2, hvi⟩)
                clear hja hH hvi
                go_wp2_with (first
                  | (refine wpList_build_run rfl _ _ rfl #[(0, .string ⟨(s.take k).toArray⟩), (1, .string ⟨t.toArray⟩), (4, .bool true)] (by rfl) _ (build_req3 _ _ _) ?_)
                  | (refine wpList_store_all rfl _ _ _ rfl w.heap.size rfl _ reqZ (reqA (s.take k) t none 0 0 none 0 0 true) rfl hg1 size_req rfl req_one ?_; intro wz hgz hgrz hzz; clear hzz))
                refine bodyPost_ret (results_cell_tmp rfl _ _ w.heap.size _ _ _ _ rfl hgz Tryz.underlying42 rfl size_req _ rfl) rfl ?_
                exact HOKY.out _ _ HE.out wz hgrz
          · have HE := Lib.hid (HNO.out fun h => by have h5 := h.2.2.2.2.1; rw [hQ] at h5; exact a5 h5)
            have d5 : (s.drop Q == [32, 72, 84, 84, 80, 47, 49, 46, 49]) = false := by simpa [verS] using a5
            clear a1 a2 a3 a4 a5 hQ
            go_wp2_with (first
              | (refine wpList_build_run rfl _ _ rfl #[] (by rfl) _ (build_req0 _) ?_)
              | (refine wpList_store_all rfl _ _ _ rfl w.heap.size rfl _ reqZ reqZ rfl hg1 size_req rfl req_one ?_; intro wz hgz hgrz hzz; clear hzz))
            refine bodyPost_ret (results_cell_tmp rfl _ _ w.heap.size _ _ _ _ rfl hgz Tryz.underlying42 rfl size_req _ rfl) rfl ?_
            exact HBAD.out HE.out wz hgrz
        · have HE := Lib.hid (HNO.out fun h => by have h4 := h.2.2.2.1; rw [HX.out] at h4; exact a4 (Option.some.inj h4))
          have d4 : ((x.toNat : Int) != 32) = true := by
            rw [bne_iff_ne]
            intro e
            exact a4 (UInt8.toNat_inj.1 (by show x.toNat = 32; omega))
          clear a1 a2 a3 a4
          go_wp2_with (first
            | (refine wpList_build_run rfl _ _ rfl #[] (by rfl) _ (build_req0 _) ?_)
            | (refine wpList_store_all rfl _ _ _ rfl w.heap.size rfl _ reqZ reqZ rfl hg1 size_req rfl req_one ?_; intro wz hgz hgrz hzz; clear hzz))
          refine bodyPost_ret (results_cell_tmp rfl _ _ w.heap.size _ _ _ _ rfl hgz Tryz.underlying42 rfl size_req _ rfl) rfl ?_
          exact HBAD.out HE.out wz hgrz

end Go.Proofs.YtckkmdigmecagaaGreatDoor

/-
  The document's answer to field: Small, Trim.
-/
namespace Go.Proofs.YtckkmdigmecagaaGreatDoor.Fl
open Go.RowKit

theorem up_case (x : UInt8) : ((65 ≤ (x.toNat : Int) ∧ (x.toNat : Int) ≤ 90) ∧ Value.int .u8 ((x.toNat : Int) + 97 - 65) = b8 (lowB x)) ∨ ((x.toNat : Int) < 65 ∧ lowB x = x) ∨ ((65 ≤ (x.toNat : Int) ∧ 90 < (x.toNat : Int)) ∧ lowB x = x) := by
  obtain ⟨l1, l2, l3⟩ := low_fin ⟨x.toNat, x.toNat_lt⟩
  dsimp only at l1 l2 l3
  by_cases h1 : (x.toNat : Int) < 65
  · refine .inr (.inl ⟨h1, low_no ?_⟩)
    unfold isL
    simp
    omega
  · by_cases h2 : (x.toNat : Int) ≤ 90
    · refine .inl ⟨⟨by omega, h2⟩, ?_⟩
      have hl : isL x = true := by unfold isL; simp; omega
      rw [← low_yes hl, l2 (by omega) (by omega)]
      congr 1
      omega
    · refine .inr (.inr ⟨⟨by omega, by omega⟩, ?_⟩)
      cases hl : isL x
      · exact low_no hl
      · have h3 : 97 ≤ x.toNat ∧ x.toNat ≤ 122 := by
          unfold isL at hl
          simp at hl
          omega
        unfold lowB
        rw [if_pos hl, l3 h3.1 h3.2]
        exact UInt8.ofNat_toNat
set_option maxRecDepth 20000 in
set_option maxHeartbeats 4000000 in
theorem RSmall_any (s : List UInt8) (hs : s.length ≤ 1073741824) (w : World) :
    Calls Tryz.prog 43 #[.string ⟨s.toArray⟩] w fun e w' => e = .returned (.string ⟨(smallL s).toArray⟩) ∧ Below w.heap.size w w' := by
  obtain ⟨n, hn⟩ : ∃ n, s.length = n := ⟨_, rfl⟩
  have HN := Lib.hid hn
  have hn1 : n ≤ 1073741824 := by omega
  clear hn hs
  go_enter Tryz.func43, Tryz.ntmps43
  go_wp2_with (refine wpList_s2b rfl _ rfl Tryz.underlying9 Tryz.underlying27 Tryz.underlying5 ⟨s.toArray⟩ rfl (by rw [size_mk, HN.out]; exact hn1) ?_; intro c1 w1 ho1 hb1; rw [size_mk, HN.out] at ho1 ⊢; generalize (some (⟨w.heap.size, 0, none⟩ : Addr)) = A1 at ho1 ⊢)
  go_loopw [4] (fun i wr => ∃ k : Nat, k ≤ n ∧ i = .int .i64 k ∧ Own wr w.heap.size 5 1 A1 n c1 ((smallL (s.take k) ++ s.drop k).map b8) ∧ Below w.heap.size w wr) (fun i _ => n - (intOf i).toNat)
  case atStart => exact ⟨0, by omega, rfl, by simpa [smallL] using ho1, hb1⟩
  case round =>
    obtain ⟨k, hk, rfl, ho, hb⟩ := hrel
    clear ho1 hb1
    by_cases hkn : k < n
    · have hx : s[k]? = some (s[k]'(by rw [HN.out]; exact hkn)) := List.getElem?_eq_getElem _
      generalize s[k]'(by rw [HN.out]; exact hkn) = x at hx
      obtain ⟨hm1, hm2⟩ := small_mid hx
      have hPl : (smallL (s.take k)).length = k := by unfold smallL; rw [List.length_map, List.length_take, HN.out]; omega
      have hcell := ho.rd.cell k (b8 x) (by
        rw [hm1, List.map_append, List.getElem?_append_right (by rw [List.length_map, hPl]; exact Nat.le_refl _), List.length_map, hPl, Nat.sub_self]
        rfl)
      have hidx := run_index_rd (P := Tryz.prog) (A := A1) (n := n) (c := c1) eb ho.rd.nil ho.rd.le k hkn
      rw [Nat.mul_one] at hidx
      have hle := ho.rd.le
      have hfr := ho.free (k := k) (by omega)
      have hst := ho.store (k := k) (by omega) (b8 (lowB x))
      have hbs := below_store hb ho (k := k) (by omega) (b8 (lowB x))
      have hst2 : Own (wr.setCell (at_ A1 k) (b8 (lowB x))) w.heap.size 5 1 A1 n c1 ((smallL (s.take (k + 1)) ++ s.drop (k + 1)).map b8) := by
        rw [hm2, ← set_mid _ _ x, hPl, List.map_set, ← hm1]
        exact hst
      have hkeep : lowB x = x → Own wr w.heap.size 5 1 A1 n c1 ((smallL (s.take (k + 1)) ++ s.drop (k + 1)).map b8) := fun h => by
        rw [hm2, h, ← hm1]
        exact ho
      have HL := Lib.hid (fun W => letter_any x W)
      have hor := or32 x.toNat x.toNat_lt
      have hk' : (k : Int) < n := by omega
      have HST := Lib.hid hst2
      have HBS := Lib.hid hbs
      have HKE := Lib.hid hkeep
      unfold b8 at hcell
      clear hx hm1 hm2 hPl hst hst2 hbs hkeep hkn
      have hxb : (x.toNat : Int) ≤ 255 := by have := x.toNat_lt; omega
      clear hor HL
      rcases up_case x with ⟨⟨u1, u2⟩, hv⟩ | ⟨u1, hv⟩ | ⟨⟨u1, u2⟩, hv⟩
      · have HY := Lib.hid hv
        clear hv
        go_wp2_with fail
        rw [HY.out]
        go_roundw
        case rel => exact ⟨k + 1, by omega, by go_num, HST.out, HBS.out⟩
        case measure => simp [intOf]; omega
      · have HO := Lib.hid (HKE.out hv)
        clear hv
        go_wp2_with fail
        go_roundw
        case rel => exact ⟨k + 1, by omega, by go_num, HO.out, hb⟩
        case measure => simp [intOf]; omega
      · have HO := Lib.hid (HKE.out hv)
        clear hv
        go_wp2_with fail
        go_roundw
        case rel => exact ⟨k + 1, by omega, by go_num, HO.out, hb⟩
        case measure => simp [intOf]; omega
    · obtain rfl : k = n := by omega
      have e : smallL (s.take k) ++ s.drop k = smallL s := by rw [List.take_of_length_le (by rw [HN.out]; exact Nat.le_refl _), List.drop_eq_nil_of_le (by rw [HN.out]; exact Nat.le_refl _), List.append_nil]
      rw [e] at ho
      have hs := str_rd ho.rd
      clear e hkn
      go_wp2_with fail
      go_ret
      exact ⟨rfl, hb⟩

/-! ### Trim -/
theorem blank_case (x : UInt8) : (((x.toNat : Int) = 32) ∧ isB x = true) ∨ (((x.toNat : Int) ≠ 32 ∧ (x.toNat : Int) = 9) ∧ isB x = true) ∨ (((x.toNat : Int) ≠ 32 ∧ (x.toNat : Int) ≠ 9) ∧ isB x = false) := by
  have hx : isB x = (x == 32 || x == 9) := by
    unfold isB blk2
    simp only [List.contains, List.elem]
    cases x == 32 <;> cases x == 9 <;> rfl
  rw [hx]
  by_cases h1 : x = 32
  · subst h1
    exact .inl ⟨rfl, rfl⟩
  · have h1' : (x.toNat : Int) ≠ 32 := fun e => h1 (UInt8.toNat_inj.1 (by simpa using (by omega : x.toNat = 32)))
    by_cases h2 : x = 9
    · subst h2
      exact .inr (.inl ⟨⟨by decide, rfl⟩, rfl⟩)
    · have h2' : (x.toNat : Int) ≠ 9 := fun e => h2 (UInt8.toNat_inj.1 (by simpa using (by omega : x.toNat = 9)))
      exact .inr (.inr ⟨⟨h1', h2'⟩, by simp [h1, h2]⟩)
theorem trimR_snoc (r : List UInt8) (x : UInt8) : Lib.trimRightS (r ++ [x]) blk2 = if isB x then Lib.trimRightS r blk2 else r ++ [x] := by
  rw [trimR_eq, trimR_eq, List.reverse_append]
  show ((x :: r.reverse).dropWhile isB).reverse = _
  by_cases hx : isB x = true
  · rw [List.dropWhile_cons_of_pos hx, if_pos hx]
  · rw [List.dropWhile_cons_of_neg hx, if_neg hx]
    simp
def strLen : Value → Nat
  | .string b => b.size
  | _ => 0

set_option maxRecDepth 20000 in
set_option maxHeartbeats 4000000 in
theorem RTrim_any (s : List UInt8) (hs : s.length ≤ 1073741824) (w : World) : Calls Tryz.prog 54 #[.string ⟨s.toArray⟩] w fun e w' => e = .returned (.string ⟨(trimL s).toArray⟩) ∧ w = w' := by
  rw [trim_other]
  obtain ⟨T, hT⟩ : ∃ T, s.dropWhile isB = T := ⟨_, rfl⟩
  rw [hT]
  have HT := Lib.hid hT
  clear hT
  go_enter Tryz.func54, Tryz.ntmps54
  go_wp2_with fail
  go_loop [0] (fun v => ∃ t : List UInt8, v = .string ⟨t.toArray⟩ ∧ t.length ≤ 1073741824 ∧ Hid (t.dropWhile isB = T)) (fun v => strLen v)
  case atStart => exact ⟨s, rfl, hs, HT.out⟩
  case round =>
    obtain ⟨t, rfl, htl, hH⟩ := hrel
    have goOn : ∀ x r, t = x :: r → isB x = true → Hid (r.dropWhile isB = T) := fun x r h1 h2 => by
      show _ = _
      rw [← hH.out, h1, List.dropWhile_cons_of_pos h2]
    have stop : (t = [] ∨ ∃ x r, t = x :: r ∧ isB x = false) → Hid (t = T) := fun h => by
      show _ = _
      rcases h with h | ⟨x, r, h1, h2⟩
      · rw [← hH.out, h]
        rfl
      · rw [← hH.out, h1, List.dropWhile_cons_of_neg (by rw [h2]; decide)]
    have GO := Lib.hid goOn
    have ST := Lib.hid stop
    clear goOn stop hH
    have hcase : (∃ x r, t = x :: r ∧ (x.toNat : Int) = 32 ∧ Hid (r.dropWhile isB = T)) ∨ (∃ x r, t = x :: r ∧ (x.toNat : Int) ≠ 32 ∧ (x.toNat : Int) = 9 ∧ Hid (r.dropWhile isB = T)) ∨ (Hid (t = T) ∧ t = []) ∨ (∃ x r, t = x :: r ∧ (x.toNat : Int) ≠ 32 ∧ (x.toNat : Int) ≠ 9 ∧ Hid (t = T)) := by
      cases ht : t with
      | nil => exact .inr (.inr (.inl ⟨ht ▸ ST.out (.inl ht), rfl⟩))
      | cons x r =>
        rcases blank_case x with ⟨h1, h2⟩ | ⟨⟨h1, h2⟩, h3⟩ | ⟨⟨h1, h2⟩, h3⟩
        · exact .inl ⟨x, r, rfl, h1, GO.out x r ht h2⟩
        · exact .inr (.inl ⟨x, r, rfl, h1, h2, GO.out x r ht h3⟩)
        · exact .inr (.inr (.inr ⟨x, r, rfl, h1, h2, ht ▸ ST.out (.inr ⟨x, r, ht, h3⟩)⟩))
    have HCASE := Lib.hid hcase
    have hi : ∀ x r, t = x :: r → ∀ W, (Instr.index 9 (.string ⟨t.toArray⟩) (.int .i64 0)).run Tryz.prog W = .ok (.int .u8 (x.toNat : Int)) W := fun x r h W => run_str_at (P := Tryz.prog) Tryz.underlying9 t 0 x (by rw [h]; rfl) (kl := .i64) W
    have hsl : ∀ x r, t = x :: r → ∀ W, (Instr.sliceAt 9 (.string ⟨t.toArray⟩) (some (.int .i64 1)) none none).run Tryz.prog W = .ok (.string ⟨r.toArray⟩) W := fun x r h W => by
      have := run_str_l (P := Tryz.prog) Tryz.underlying9 t 1 (by rw [h]; simp) (kl := .i64) W
      rw [h] at this ⊢
      exact this
    have HI := Lib.hid hi
    have HSL := Lib.hid hsl
    clear GO ST hcase hi hsl
    rcases HCASE.out with ⟨x, r, h0, h1, hN⟩ | ⟨x, r, h0, h1, h2, hN⟩ | ⟨hTT, h0⟩ | ⟨x, r, h0, h1, h2, hTT⟩
    · have i0 := HI.out x r h0
      have s0 := HSL.out x r h0
      have hpos : (0 : Int) < t.length := (by have h := congrArg List.length h0; simp at h; omega)
      have hrl : r.length ≤ 1073741824 := by rw [h0] at htl; simp at htl; omega
      have hlt : r.length < t.length := by rw [h0]; simp
      have h1' : ((x.toNat : Int) == 32) = true := by simpa using h1
      have HLT := Lib.hid hlt
      clear HCASE HI HSL h0 h1 hlt
      go_wp2_with fail
      go_round
      case rel => exact ⟨r, rfl, hrl, hN.out⟩
      case measure =>
        show (⟨r.toArray⟩ : ByteArray).size < (⟨t.toArray⟩ : ByteArray).size
        rw [size_mk, size_mk]
        exact HLT.out
    · have i0 := HI.out x r h0
      have s0 := HSL.out x r h0
      have hpos : (0 : Int) < t.length := (by have h := congrArg List.length h0; simp at h; omega)
      have hrl : r.length ≤ 1073741824 := by rw [h0] at htl; simp at htl; omega
      have hlt : r.length < t.length := by rw [h0]; simp
      have h1' : ((x.toNat : Int) == 32) = false := by simpa using h1
      have h2' : ((x.toNat : Int) == 9) = true := by simpa using h2
      have HLT := Lib.hid hlt
      clear HCASE HI HSL h0 h1 h2 hlt
      go_wp2_with fail
      go_round
      case rel => exact ⟨r, rfl, hrl, hN.out⟩
      case measure =>
        show (⟨r.toArray⟩ : ByteArray).size < (⟨t.toArray⟩ : ByteArray).size
        rw [size_mk, size_mk]
        exact HLT.out
    · subst h0
      have hfin : Lib.trimRightS T blk2 = [] := by rw [← hTT.out]; rfl
      have HF := Lib.hid hfin
      clear HCASE HI HSL hfin
      go_wp2_with fail
      go_loop [0] (fun v => v = .string ⟨#[]⟩) (fun v => strLen v)
      case atStart => rfl
      case round =>
        obtain rfl := hrel
        go_wp2_with fail
        go_ret
        rw [HF.out]
        exact ⟨rfl, rfl⟩
    · have i0 := HI.out x r h0
      have hpos : (0 : Int) < t.length := (by have h := congrArg List.length h0; simp at h; omega)
      have h1' : ((x.toNat : Int) == 32) = false := by simpa using h1
      have h2' : ((x.toNat : Int) == 9) = false := by simpa using h2
      clear HCASE HI HSL h0 h1 h2
      go_wp2_with fail
      go_loop [0] (fun v => ∃ u : List UInt8, v = .string ⟨u.toArray⟩ ∧ u.length ≤ 1073741824 ∧ Hid (Lib.trimRightS u blk2 = Lib.trimRightS T blk2)) (fun v => strLen v)
      case atStart => exact ⟨t, rfl, htl, (show _ = _ by rw [hTT.out])⟩
      case round =>
        clear i0 hpos htl hTT
        obtain ⟨u, rfl, hul, hH⟩ := hrel
        by_cases hu : u = []
        · subst hu
          have hfin : Lib.trimRightS T blk2 = [] := by rw [← hH.out]; rfl
          have HF := Lib.hid hfin
          clear hfin hH
          go_wp2_with fail
          go_ret
          rw [HF.out]
          exact ⟨rfl, rfl⟩
        · obtain ⟨r2, y, hry⟩ : ∃ r2 y, u = r2 ++ [y] := ⟨u.dropLast, u.getLast hu, (List.dropLast_concat_getLast hu).symm⟩
          have hlen : u.length = r2.length + 1 := by rw [hry]; simp
          have hi1 := run_str_at (P := Tryz.prog) Tryz.underlying9 u r2.length y (by rw [hry]; simp) (kl := .i64)
          have hs1 := run_str_h (P := Tryz.prog) Tryz.underlying9 u r2.length (by omega) (kh := .i64)
          have htk : u.take r2.length = r2 := by rw [hry]; simp
          have ec : ((r2.length : Nat) : Int) = (u.length : Int) - 1 := by omega
          rw [htk, ec] at hs1
          rw [ec] at hi1
          have hsn := trimR_snoc r2 y
          rw [← hry] at hsn
          have hup : (0 : Int) < u.length := by omega
          have hu1 : (1 : Int) ≤ u.length := by omega
          have hrl : r2.length ≤ 1073741824 := by omega
          have HLT := Lib.hid (by omega : r2.length < u.length)
          have HSN := Lib.hid hsn
          have HRY := Lib.hid hry
          clear hry hlen htk ec hsn hu
          rcases blank_case y with ⟨b1, hb⟩ | ⟨⟨b1, b2⟩, hb⟩ | ⟨⟨b1, b2⟩, hb⟩
          · have hN : Hid (Lib.trimRightS r2 blk2 = Lib.trimRightS T blk2) := by
              show _ = _
              rw [← hH.out, HSN.out, if_pos hb]
            have b1' : ((y.toNat : Int) == 32) = true := by simpa using b1
            clear b1 hb hH
            go_wp2_with fail
            go_round
            case rel => exact ⟨r2, rfl, hrl, hN.out⟩
            case measure =>
              show (⟨r2.toArray⟩ : ByteArray).size < (⟨u.toArray⟩ : ByteArray).size
              rw [size_mk, size_mk]
              exact HLT.out
          · have hN : Hid (Lib.trimRightS r2 blk2 = Lib.trimRightS T blk2) := by
              show _ = _
              rw [← hH.out, HSN.out, if_pos hb]
            have b1' : ((y.toNat : Int) == 32) = false := by simpa using b1
            have b2' : ((y.toNat : Int) == 9) = true := by simpa using b2
            clear b1 b2 hb hH
            go_wp2_with fail
            go_round
            case rel => exact ⟨r2, rfl, hrl, hN.out⟩
            case measure =>
              show (⟨r2.toArray⟩ : ByteArray).size < (⟨u.toArray⟩ : ByteArray).size
              rw [size_mk, size_mk]
              exact HLT.out
          · have hfin : Lib.trimRightS T blk2 = u := by
              rw [← hH.out, HSN.out, if_neg (by rw [hb]; decide)]
            have b1' : ((y.toNat : Int) == 32) = false := by simpa using b1
            have b2' : ((y.toNat : Int) == 9) = false := by simpa using b2
            have HF := Lib.hid hfin
            clear b1 b2 hb hH hfin
            go_wp2_with fail
            go_ret
            rw [HF.out]
            exact ⟨rfl, rfl⟩

end Go.Proofs.YtckkmdigmecagaaGreatDoor.Fl
