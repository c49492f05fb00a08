/-
  Joined texts of this claim's author (each began as a text of its own; each says itself what it holds).
-/
import Derived.Test.YtaopohacelmglaaDoorG08
import Derived.Test.YtaopohacelmglaaDoorG07
import Derived.Test.YtaopohacelmglaaDoorG05
import Derived.Test.YtaopohacelmglaaDoorG02
import Derived.Test.YtaopohacelmglaaDoorG06
import Derived.Test.YtaopohacelmglaaDoorG04
import Derived.Test.YtaopohacelmglaaDoorG03
set_option linter.unusedVariables false
set_option linter.unusedSimpArgs false

/-
  Plain: which road a request takes; what the laws' begun asks. The laws' own begun.
-/
namespace Go.Proofs.YtaopohacelmglaaDoor
open Go.RowKit

def pickR (m : Bs) (P : List Bs) : List Road → Nat → Option Road × Nat
  | [], s => (none, s)
  | r :: l, s => if fitsF r.parts P = true then (if r.m = m then (some r, 0) else pickR m P l 405) else pickR m P l s
theorem find_hit {m : Bs} {P : List Bs} {Q : List Tg.Pm} {r : Road} {o : OpR} (ho : sayR r P Q = some o) : ∀ {l : List Road} {s : Nat}, pickR m P l s = (some r, 0) → findR m P Q l s = (some (r, o), 0)
  | [], s, h => by cases h
  | q :: l, s, h => by
    rw [pickR] at h
    rw [findR]
    split at h
    · rename_i h1
      rw [if_pos h1]
      split at h
      · rename_i h2
        cases h
        rw [if_pos h2, ho]
      · rename_i h2
        rw [if_neg h2]
        exact find_hit ho h
    · rename_i h1
      rw [if_neg h1]
      exact find_hit ho h
theorem find_bad {m : Bs} {P : List Bs} {Q : List Tg.Pm} {r : Road} (ho : sayR r P Q = none) : ∀ {l : List Road} {s : Nat}, pickR m P l s = (some r, 0) → findR m P Q l s = (none, 400)
  | [], s, h => by cases h
  | q :: l, s, h => by
    rw [pickR] at h
    rw [findR]
    split at h
    · rename_i h1
      rw [if_pos h1]
      split at h
      · rename_i h2
        cases h
        rw [if_pos h2, ho]
      · rename_i h2
        rw [if_neg h2]
        exact find_bad ho h
    · rename_i h1
      rw [if_neg h1]
      exact find_bad ho h
theorem find_miss {m : Bs} {P : List Bs} {Q : List Tg.Pm} {k : Nat} : ∀ {l : List Road} {s : Nat}, pickR m P l s = (none, k) → findR m P Q l s = (none, k)
  | [], s, h => by
    cases h
    rfl
  | q :: l, s, h => by
    rw [pickR] at h
    rw [findR]
    split at h
    · rename_i h1
      rw [if_pos h1]
      split at h
      · cases h
      · rename_i h2
        rw [if_neg h2]
        exact find_miss h
    · rename_i h1
      rw [if_neg h1]
      exact find_miss h
theorem toR_of {m t : Bs} {P : List Bs} {Q : List Tg.Pm} (h : Tg.parseF t = (P, Q, 0)) : toR m t = findR m P Q roadsT 404 := by
  unfold toR
  rw [h]
  exact if_pos rfl
theorem parse_path {t : Bs} {P : List Bs} (h1 : (cut1 63 t).2.2 = false) (h2 : Tg.pathF (cut1 63 t).1 = some P) (h3 : ∀ p ∈ P, Tg.GoodP p) : Tg.parseF t = (P, [], 0) := by
  unfold Tg.parseF
  rw [h2]
  unfold Tg.contEnd
  rw [h1]
  exact Tg.fin_path h3
theorem ask_nil (o : OpR) : askR false false [] o = some o := by simp [askR, askF, mustN]
theorem fill_plain {x : Bs} (h1 : x ≠ nmW) (h2 : x ≠ hxW) (h3 : x ≠ nrW) (y : Bs) (o : OpR) : fillS x y o = some o := by
  unfold fillS
  rw [if_neg h1, if_neg h2, if_neg h3]
theorem fill_nm (y : Bs) (o : OpR) (h : Nm.nameB ⟨y.toArray⟩ = true) : fillS nmW y o = some { o with tn := y } := by
  unfold fillS
  rw [if_pos rfl, if_pos h]
theorem fill_nr {y : Bs} {v : Int} (o : OpR) (h : Nm.numR ⟨y.toArray⟩ = (v, 0)) : fillS nrW y o = some { o with num := v } := by
  unfold fillS
  rw [if_neg (by decide), if_neg (by decide), if_pos rfl, h]
  exact if_pos rfl
theorem fill_nr_no {y : Bs} (o : OpR) (h : Nm.numR ⟨y.toArray⟩ = (0, 4)) : fillS nrW y o = none := by
  unfold fillS
  rw [if_neg (by decide), if_neg (by decide), if_pos rfl, h]
  exact if_neg (by decide)
theorem fill_cons (x y : Bs) (l p : List Bs) (o : OpR) : fillF (x :: l) (y :: p) o = (fillS x y o).bind (fillF l p) := rfl
theorem name_a : Nm.nameB ⟨#[97]⟩ = true := Nm.nameB_yes ⟨by decide, by decide, fun _ => (by decide : (97 : Int) ≤ ((97 : UInt8).toNat : Int) ∧ ((97 : UInt8).toNat : Int) ≤ 122), fun k hk => by
  match k, hk with
  | 0, _ => exact (Or.inl ⟨by decide, by decide⟩ : Nm.inName ((97 : UInt8).toNat : Int))
  | k + 1, hk =>
    have : k + 1 < 1 := hk
    omega⟩
theorem num_7 : Nm.numR ⟨#[55]⟩ = (7, 0) := by
  refine (Nm.numR_good ⟨?_, by decide, ?_⟩ ?_).trans ?_
  · intro k hk
    match k, hk with
    | 0, _ => exact (by decide : (48 : Int) ≤ ((55 : UInt8).toNat : Int) ∧ ((55 : UInt8).toNat : Int) ≤ 57)
    | k + 1, hk =>
      have : k + 1 < 1 := hk
      omega
  · rintro ⟨h, h1, h2⟩
    exact absurd h2 (by decide)
  · decide
  · decide
theorem num_07 : Nm.numR ⟨#[48, 55]⟩ = (0, 4) := Nm.numR_bad fun h => h.2.2 ⟨by decide, by decide, by decide⟩
def begR5 : Road := ⟨[71, 69, 84], [116, 47, 78, 65, 77, 69, 47, 115, 47, 78], 5, false, false, false⟩
def begO : OpR := { opZ with tn := [97], num := 7 }
theorem beg_parts : begR5.parts = [[116], nmW, [115], nrW] := by decide +kernel
theorem beg_1 : toR [71, 69, 84] [47, 116, 47, 97, 47, 115, 47, 55] = (some (begR5, begO), 0) := by
  rw [toR_of (parse_path (P := [[116], [97], [115], [55]]) (by decide +kernel) (by decide +kernel) (by unfold Tg.GoodP; decide))]
  refine find_hit (r := begR5) ?_ (by kernel_rfl)
  unfold sayR
  rw [beg_parts, fill_cons, fill_plain (by decide) (by decide) (by decide), Option.bind_some, fill_cons, fill_nm _ _ name_a, Option.bind_some, fill_cons, fill_plain (by decide) (by decide) (by decide), Option.bind_some, fill_cons, fill_nr _ num_7]
  exact ask_nil _
theorem beg_2 : toR [71, 69, 84] [47, 116, 47, 97, 47, 115, 47, 48, 55] = (none, 400) := by
  rw [toR_of (parse_path (P := [[116], [97], [115], [48, 55]]) (by decide +kernel) (by decide +kernel) (by unfold Tg.GoodP; decide))]
  refine find_bad (r := begR5) ?_ (by kernel_rfl)
  unfold sayR
  rw [beg_parts, fill_cons, fill_plain (by decide) (by decide) (by decide), Option.bind_some, fill_cons, fill_nm _ _ name_a, Option.bind_some, fill_cons, fill_plain (by decide) (by decide) (by decide), Option.bind_some, fill_cons, fill_nr_no _ num_07]
  rfl
theorem beg_3 : toR [80, 85, 84] [47, 116, 47, 97, 47, 115] = (none, 405) := by
  rw [toR_of (parse_path (P := [[116], [97], [115]]) (by decide +kernel) (by decide +kernel) (by unfold Tg.GoodP; decide))]
  exact find_miss (by kernel_rfl)
/-- A request of a method and a target alone. -/
def rq0 (m t : Bs) : Req := ⟨m, t, none, 0, 0, [], none, 0, 0, [], false⟩
theorem rq0_ok {w : World} {m t : Bs} (ht : t.length ≤ 4096) : RqIn w (rq0 m t) :=
  ⟨Rd.nil_ w 2, Rd.nil_ w 1, Nat.zero_le _, (by decide : (Fl.getF [] autW).1.length ≤ 1048576), Nat.zero_le _, ht⟩
theorem mx_of {w : World} (h : w.ShapedOpen Tryd.checked.prog) : Mx w :=
  Go.Proofs.cell_of_shapedOpen_int (zero := #[.int .i64 0]) (t := 3) h (of_decide_eq_true (by kernel_rfl)) (by kernel_rfl) rfl (by kernel_rfl) (by kernel_rfl) Tryd.underlying3

theorem To_hit {w : World} (r : Req) (h : RqIn w r) (hm : Mx w) {x : Road} {o : OpR} (hr : toR r.m r.t = (some (x, o), 0)) :
    Calls Tryd.prog 10 #[.agg (rqA r)] w fun e w' => ∃ bA bn bc tA tn tc, e = .returned (.tuple #[.agg (opA ⟨(x.d : Int), o, bA, bn, bc, tA, tn, tc⟩), .int .i64 0]) ∧ o.of.length = 32 ∧ Own w' w.heap.size 5 1 bA bn bc ((if x.b then r.bd else []).map b8) ∧ Own w' w.heap.size 5 1 tA tn tc ((tokF r.fs).map b8) ∧ Below w.heap.size w w' :=
  (To_any r h hm).mono (by
    rintro e w' ⟨hb, y, rfl, hok, _, hs⟩
    obtain ⟨h1, h2, h3, h4⟩ := hs x o (congrArg Prod.fst hr)
    obtain ⟨yd, yo, bA, bn, bc, tA, tn, tc⟩ := y
    dsimp only at h1 h2 h3 h4 hok
    subst h1
    subst h2
    exact ⟨bA, bn, bc, tA, tn, tc, by rw [hr]; rfl, hok, h3, h4, hb⟩)
theorem To_miss {w : World} (r : Req) (h : RqIn w r) (hm : Mx w) {s : Nat} (hr : toR r.m r.t = (none, s)) :
    Calls Tryd.prog 10 #[.agg (rqA r)] w fun e w' => e = .returned (.tuple #[.agg (opA opvZ), .int .i64 (s : Int)]) ∧ Below w.heap.size w w' :=
  (To_any r h hm).mono (by
    rintro e w' ⟨hb, y, rfl, hok, hn, _⟩
    obtain rfl := hn (congrArg Prod.fst hr)
    exact ⟨by rw [hr], hb⟩)

set_option maxRecDepth 20000 in
set_option maxHeartbeats 8000000 in
theorem begun_any (w : World) (hm : Mx w) : Calls Tryd.prog 7 #[] w fun e w' => e = .returned (.bool true) ∧ Below w.heap.size w w' := by
  have H1 := Lib.hid (fun W (hb : Below w.heap.size w W) => To_hit (w := W) (rq0 [71, 69, 84] [47, 116, 47, 97, 47, 115, 47, 55]) (rq0_ok (by decide)) (hm.below hb) beg_1)
  have H2 := Lib.hid (fun W (hb : Below w.heap.size w W) => To_miss (w := W) (rq0 [71, 69, 84] [47, 116, 47, 97, 47, 115, 47, 48, 55]) (rq0_ok (by decide)) (hm.below hb) beg_2)
  have H3 := Lib.hid (fun W (hb : Below w.heap.size w W) => To_miss (w := W) (rq0 [80, 85, 84] [47, 116, 47, 97, 47, 115]) (rq0_ok (by decide)) (hm.below hb) beg_3)
  clear hm
  go_enter Tryd.func7, Tryd.ntmps7
  go_wp2_with fail
  refine (H1.out _ (Below.refl _ _)).mono ?_
  rintro e w1 ⟨bA, bn, bc, tA, tn, tc, rfl, hok, _, _, hb1⟩
  go_upto_region 2 with (first
    | (refine wpList_alloc_zero rfl _ rfl (opA opvZ) zero_op ?_; intro v1 hv1 bv1 zv1; clear zv1)
    | (refine wpList_store_all rfl _ _ _ rfl w1.heap.size rfl _ _ _ rfl hv1 (size_op hok) ((opA_size opZ_len).trans (opA_size hok).symm) opA_one ?_; intro u1 hu1 gu1 zu1; clear zu1))
  have bu1 : Below w1.heap.size w1 u1 := bv1.grown gu1 bv1.size (fun g hg => by obtain rfl := Option.some.inj hg; exact Nat.le_refl _)
  clear hv1 bv1 gu1
  have hb1' := hb1.trans (bu1.mono hb1.size)
  have hX : OpB u1 w1.heap.size ⟨(begR5.d : Int), begO, bA, bn, bc, tA, tn, tc⟩ := ⟨hok, hu1⟩
  clear hb1 bu1 hu1
  go_wp2_with fail
  refine (H2.out _ hb1').mono ?_
  rintro e w2 ⟨rfl, hb2⟩
  go_upto_region 3 with (first
    | (refine wpList_alloc_zero rfl _ rfl (opA opvZ) zero_op ?_; intro v2 hv2 bv2 zv2; clear zv2)
    | (refine wpList_store_all rfl _ _ _ rfl w2.heap.size rfl _ _ _ rfl hv2 (size_op opZ_len) ((opA_size opZ_len).trans (opA_size opZ_len).symm) opA_one ?_; intro u2 hu2 gu2 zu2; clear zu2))
  have bu2 : Below w2.heap.size w2 u2 := bv2.grown gu2 bv2.size (fun g hg => by obtain rfl := Option.some.inj hg; exact Nat.le_refl _)
  clear hv2 bv2 gu2
  have hb2' := hb2.trans (bu2.mono hb2.size)
  have hb2u := hb1'.trans (hb2'.mono hb1'.size)
  have hX2 := hX.below hb2'
  clear hb2 bu2 hu2 hX hb2'
  go_wp2_with fail
  refine (H3.out _ hb2u).mono ?_
  rintro e w3 ⟨rfl, hb3⟩
  go_upto_region 4 with (first
    | (refine wpList_alloc_zero rfl _ rfl (opA opvZ) zero_op ?_; intro v3 hv3 bv3 zv3; clear zv3)
    | (refine wpList_store_all rfl _ _ _ rfl w3.heap.size rfl _ _ _ rfl hv3 (size_op opZ_len) ((opA_size opZ_len).trans (opA_size opZ_len).symm) opA_one ?_; intro u3 hu3 gu3 zu3; clear zu3))
  have bu3 : Below w3.heap.size w3 u3 := bv3.grown gu3 bv3.size (fun g hg => by obtain rfl := Option.some.inj hg; exact Nat.le_refl _)
  clear hv3 bv3 gu3
  have hb3' := hb3.trans (bu3.mono hb3.size)
  have hb3u := hb2u.trans (hb3'.mono hb2u.size)
  have hX3 := hX2.below hb3'
  have c0 : u3.cell? ⟨w1.heap.size, 0, none⟩ = some (.int .i64 5) := hX3.cDo
  have c1 : u3.cell? ⟨w1.heap.size, 1, none⟩ = some (.string ⟨#[97]⟩) := hX3.cTn
  have c3 : u3.cell? ⟨w1.heap.size, 34, none⟩ = some (.int .i64 7) := hX3.cNum
  clear hb3 bu3 hu3 hX2 hb3' hX3
  go_wp2_with fail
  go_ret
  exact ⟨rfl, hb3u⟩

end Go.Proofs.YtaopohacelmglaaDoor

/-
  The laws' own light: which requests are not too great.
-/
namespace Go.Proofs.YtaopohacelmglaaDoor
open Go.RowKit

def LightP (r : Req) : Prop := r.m.length ≤ 20 ∧ r.t.length ≤ 2048 ∧ r.n ≤ 40 ∧ r.k ≤ 8192 ∧ ∀ (j : Nat) f, r.fs[j]? = some f → f.1.length ≤ 200 ∧ f.2.length ≤ 2048
open Classical in
noncomputable def lightB (r : Req) : Bool := decide (LightP r)
theorem light_yes {r : Req} (h : LightP r) : lightB r = true := by
  unfold lightB
  exact @decide_eq_true _ (Classical.propDecidable _) h
theorem light_no {r : Req} (h : ¬ LightP r) : lightB r = false := by
  unfold lightB
  exact @decide_eq_false _ (Classical.propDecidable _) h
theorem bs_int {a b : Nat} (h : ¬ (a : Int) ≤ b) : ¬ a ≤ b := fun g => h (by omega)
theorem get_fst_le {fs : List Fl.Fd} {s : List UInt8} {N : Nat} (h : ∀ (j : Nat) f, fs[j]? = some f → f.2.length ≤ N) : (Fl.getF fs s).1.length ≤ N := by
  unfold Fl.getF
  split
  · simp
  · split
    · cases hf : fs.find? (Fl.isF s) with
      | none => simp
      | some f =>
        obtain ⟨j, hj⟩ := List.mem_iff_getElem?.1 (List.mem_of_find?_eq_some hf)
        simpa using h j f hj
    · simp
theorem LightP.ok {w : World} {r : Req} (h : LightP r) (hf : Fl.Fds w r.A r.n r.c r.fs) (hb : Rd w 1 r.B r.k r.d (r.bd.map b8)) : RqIn w r := by
  obtain ⟨h1, h2, h3, h4, h5⟩ := h
  have := get_fst_le (s := autW) (N := 2048) (fun j f hj => (h5 j f hj).2)
  exact ⟨hf, hb, by omega, by omega, by omega, by omega⟩

set_option maxRecDepth 20000 in
set_option maxHeartbeats 8000000 in
theorem light_any {w : World} (r : Req) (hf : Fl.Fds w r.A r.n r.c r.fs) (hml : r.m.length ≤ 9223372036854775807) (htl : r.t.length ≤ 9223372036854775807) (hfl : ∀ (j : Nat) f, r.fs[j]? = some f → f.1.length ≤ 9223372036854775807 ∧ f.2.length ≤ 9223372036854775807) (hk : r.k ≤ 9223372036854775807) :
    Calls Tryd.prog 8 #[.agg (rqA r)] w fun e w' => e = .returned (.bool (lightB r)) ∧ Below w.heap.size w w' := by
  have hsm := size_mk r.m
  have hst := size_mk r.t
  have hn := Rd.max hf
  have hnl := Rd.le hf
  unfold maxLen at hn
  have HLN := Lib.hid hf.len
  have HFL := Lib.hid hfl
  have HF := Lib.hid hf
  clear hf hfl
  go_enter Tryd.func8, Tryd.ntmps8
  go_upto_region 1 with (refine wpList_box rfl _ _ rfl (rqA r) rfl ?_; intro w1 hg1 hb1 hz1; clear hz1)
  have hq0 := (cell_rq hg1).1
  have hq1 := (cell_rq hg1).2.1
  have hq2 := (cell_rq hg1).2.2.1
  have hq3 := (cell_rq hg1).2.2.2
  by_cases c1 : (20 : Int) < r.m.length
  · have HE := Lib.hid (light_no (r := r) fun h => by have := h.1; omega)
    have d1 : decide ((20 : Int) < r.m.length) = true := decide_eq_true (by omega)
    clear c1
    go_wp2_with fail
    go_ret
    rw [HE.out]; exact ⟨rfl, hb1⟩
  have d1 : decide ((20 : Int) < r.m.length) = false := decide_eq_false (by omega)
  by_cases c2 : (2048 : Int) < r.t.length
  · have HE := Lib.hid (light_no (r := r) fun h => by have := h.2.1; omega)
    have d2 : decide ((2048 : Int) < r.t.length) = true := decide_eq_true (by omega)
    clear c1 c2
    go_wp2_with fail
    go_ret
    rw [HE.out]; exact ⟨rfl, hb1⟩
  have d2 : decide ((2048 : Int) < r.t.length) = false := decide_eq_false (by omega)
  by_cases c3 : (40 : Int) < r.n
  · have HE := Lib.hid (light_no (r := r) fun h => by have := h.2.2.1; omega)
    have d3 : decide ((40 : Int) < r.n) = true := decide_eq_true (by omega)
    clear c1 c2 c3
    go_wp2_with fail
    go_ret
    rw [HE.out]; exact ⟨rfl, hb1⟩
  have d3 : decide ((40 : Int) < r.n) = false := decide_eq_false (by omega)
  by_cases c4 : (8192 : Int) < r.k
  · have HE := Lib.hid (light_no (r := r) fun h => by have := h.2.2.2.1; omega)
    have d4 : decide ((8192 : Int) < r.k) = true := decide_eq_true (by omega)
    clear c1 c2 c3 c4
    go_wp2_with fail
    go_ret
    rw [HE.out]; exact ⟨rfl, hb1⟩
  have d4 : decide ((8192 : Int) < r.k) = false := decide_eq_false (by omega)
  have HC := Lib.hid (show r.m.length ≤ 20 ∧ r.t.length ≤ 2048 ∧ r.n ≤ 40 ∧ r.k ≤ 8192 from ⟨by omega, by omega, by omega, by omega⟩)
  have hn40 : (r.n : Int) ≤ 40 := by omega
  clear c1 c2 c3 c4 hn
  have hF1 := HF.out.below hb1
  go_wp2_with fail
  clear hml htl hk hq0 hq1 hq3
  go_loopw [3] (fun i wr => ∃ k : Nat, k ≤ r.n ∧ i = .int .i64 k ∧ w1 = wr ∧ Hid (∀ (j : Nat) f, j < k → r.fs[j]? = some f → f.1.length ≤ 200 ∧ f.2.length ≤ 2048)) (fun i _ => r.n - (intOf i).toNat)
  case atStart => exact ⟨0, by omega, rfl, rfl, (show ∀ (j : Nat) f, j < 0 → _ from fun j f h => absurd h (by omega))⟩
  case round =>
    obtain ⟨k, hk, rfl, rfl, hH⟩ := hrel
    by_cases hkn : k < r.n
    · have hx : r.fs[k]? = some (r.fs[k]'(by rw [HLN.out]; exact hkn)) := List.getElem?_eq_getElem _
      generalize r.fs[k]'(by rw [HLN.out]; exact hkn) = f at hx
      have hidx := fun W => hF1.idx hkn W
      have hd0 := hF1.name hx
      have hd1 := hF1.value hx
      have hk' : (k : Int) < r.n := by omega
      have hfm := HFL.out k f hx
      obtain ⟨x, y⟩ := f
      unfold Fl.strV at hd0 hd1
      have hsx := size_mk x
      have hsy := size_mk y
      have hd1' : w1.cell? ⟨(at_ r.A (k * 2)).block, (at_ r.A (k * 2)).off + 1, none⟩ = some (.string ⟨y.toArray⟩) := by rw [show (⟨(at_ r.A (k * 2)).block, (at_ r.A (k * 2)).off + 1, none⟩ : Addr) = (at_ r.A (k * 2)).add 1 from rfl, Fl.at_add2]; exact hd1
      dsimp only at hd0 hd1 hfm
      obtain ⟨hx1, hy1⟩ := hfm
      have HX := Lib.hid hx
      by_cases e1 : (200 : Int) < x.length
      · have HE := Lib.hid (light_no (r := r) fun h => by have := (h.2.2.2.2 k _ HX.out).1; dsimp only at this; omega)
        have f1 : decide ((200 : Int) < x.length) = true := decide_eq_true e1
        clear hkn hx hH e1
        go_wp2_with fail
        go_ret
        rw [HE.out]; exact ⟨rfl, hb1⟩
      have f1 : decide ((200 : Int) < x.length) = false := decide_eq_false e1
      by_cases e2 : (2048 : Int) < y.length
      · have HE := Lib.hid (light_no (r := r) fun h => by have := (h.2.2.2.2 k _ HX.out).2; dsimp only at this; omega)
        have f2 : decide ((2048 : Int) < y.length) = true := decide_eq_true e2
        clear hkn hx hH e1 e2
        go_wp2_with fail
        go_ret
        rw [HE.out]; exact ⟨rfl, hb1⟩
      have f2 : decide ((2048 : Int) < y.length) = false := decide_eq_false e2
      have HN : Hid (∀ (j : Nat) f, j < k + 1 → r.fs[j]? = some f → f.1.length ≤ 200 ∧ f.2.length ≤ 2048) := fun j g hj hg => by
        by_cases hjk : j < k
        · exact hH.out j g hjk hg
        · obtain rfl : j = k := by omega
          rw [hx] at hg
          obtain rfl := Option.some.inj hg
          exact ⟨by dsimp only; omega, by dsimp only; omega⟩
      clear hkn hx hH e1 e2
      go_wp2_with fail
      go_roundw
      case rel => exact ⟨k + 1, by omega, by go_num, by trivial, HN⟩
      case measure => simp [intOf]; omega
    · obtain rfl : k = r.n := by omega
      have HE := Lib.hid (light_yes (r := r) ⟨HC.out.1, HC.out.2.1, HC.out.2.2.1, HC.out.2.2.2, fun j f hj => hH.out j f (by rw [← HLN.out]; exact (List.getElem?_eq_some_iff.1 hj).1) hj⟩)
      clear hkn hH
      go_wp2_with fail
      go_ret
      rw [HE.out]; exact ⟨rfl, hb1⟩

end Go.Proofs.YtaopohacelmglaaDoor

/-
  The document's Same on operations that are alike.
-/
namespace Go.Proofs.YtaopohacelmglaaDoor
open Go.RowKit

theorem OpB.rdOf {w : World} {g : Nat} {x : Opv} (h : OpB w g x) : Rd w 1 (some ⟨g, 2, none⟩) 32 32 (x.o.of.map b8) := by
  refine ⟨by simp [h.ok], Nat.le_refl _, by decide, (fun h => by cases h), fun j u hu => ?_⟩
  have e : at_ (some (⟨g, 2, none⟩ : Addr)) j = ⟨g, 2 + j, none⟩ := by
    rw [at_some]
    unfold Addr.add
    split <;> simp_all
  rw [e]
  refine cells_at h.obj ?_
  simp only [opA, List.getElem?_toArray]
  unfold opL
  rw [show 2 + j = j + 1 + 1 by omega, List.getElem?_cons_succ, List.getElem?_cons_succ, List.getElem?_append_left (by have := (List.getElem?_eq_some_iff.1 hu).1; simpa using this)]
  exact hu

set_option maxRecDepth 20000 in
set_option maxHeartbeats 8000000 in
theorem RSame_eq {w : World} {d : Int} {o : OpR} {A1 A2 B1 B2 : Option Addr} {n1 n2 c1 c2 m1 m2 e1 e2 : Nat} {bl tl : List UInt8} (ho : o.of.length = 32)
    (hA1 : Rd w 1 A1 n1 c1 (bl.map b8)) (hA2 : Rd w 1 A2 n2 c2 (bl.map b8)) (hB1 : Rd w 1 B1 m1 e1 (tl.map b8)) (hB2 : Rd w 1 B2 m2 e2 (tl.map b8)) :
    Calls Tryd.prog 14 #[.agg (opA ⟨d, o, A1, n1, c1, B1, m1, e1⟩), .agg (opA ⟨d, o, A2, n2, c2, B2, m2, e2⟩)] w fun e w' => e = .returned (.bool true) ∧ Below w.heap.size w w' := by
  obtain rfl : bl.length = n1 := hA1.lenb
  obtain rfl : bl.length = n2 := hA2.lenb
  obtain rfl : tl.length = m1 := hB1.lenb
  obtain rfl : tl.length = m2 := hB2.lenb
  go_enter Tryd.func14, Tryd.ntmps14
  go_upto_region 1 with (first
    | (refine wpList_box rfl _ _ rfl (opA ⟨d, o, A1, bl.length, c1, B1, tl.length, e1⟩) rfl ?_; intro w1 hg1 hb1 hz1; clear hz1)
    | (refine wpList_box rfl _ _ rfl (opA ⟨d, o, A2, bl.length, c2, B2, tl.length, e2⟩) rfl ?_; intro w2 hg2 hb2 hz2; clear hz2))
  have hX : OpB w2 w.heap.size ⟨d, o, A1, bl.length, c1, B1, tl.length, e1⟩ := ⟨ho, (hb2.block _ (Array.getElem?_eq_some_iff.1 hg1).1).trans hg1⟩
  have hY : OpB w2 w1.heap.size ⟨d, o, A2, bl.length, c2, B2, tl.length, e2⟩ := ⟨ho, hg2⟩
  have hb := hb1.trans (hb2.mono hb1.size)
  have x0 := hX.cDo
  have x1 := hX.cTn
  have x3 := hX.cNum
  have x4 := hX.cTil
  have x5 := hX.cRts
  have x6 := hX.cBody
  have x7 := hX.cTok
  have y0 := hY.cDo
  have y1 := hY.cTn
  have y3 := hY.cNum
  have y4 := hY.cTil
  have y5 := hY.cRts
  have y6 := hY.cBody
  have y7 := hY.cTok
  have hldx := Lib.hid (load_id hX.rdOf)
  have hldy := Lib.hid (load_id hY.rdOf)
  have s1 := run_str_rd (P := Tryd.prog) (dst := 9) eb Tryd.underlying5 Tryd.underlying9 (hA1.below hb)
  have s2 := run_str_rd (P := Tryd.prog) (dst := 9) eb Tryd.underlying5 Tryd.underlying9 (hA2.below hb)
  have s3 := run_str_rd (P := Tryd.prog) (dst := 9) eb Tryd.underlying5 Tryd.underlying9 (hB1.below hb)
  have s4 := run_str_rd (P := Tryd.prog) (dst := 9) eb Tryd.underlying5 Tryd.underlying9 (hB2.below hb)
  clear hX hY hg1 hg2 hb1 hb2 hA1 hA2 hB1 hB2
  dsimp only at x0 x1 x3 x4 x5 x6 x7 y0 y1 y3 y4 y5 y6 y7 hldx hldy
  obtain ⟨bb, hbb⟩ : ∃ b, ((tl.length : Int) == 0) = b := ⟨_, rfl⟩
  simp only [List.append_eq, List.cons_append, List.nil_append]
  go_wp2_with (first
    | (refine wpList_load_run rfl _ _ rfl _ rfl _ hldx.out ?_)
    | (refine wpList_load_run rfl _ _ rfl _ rfl _ hldy.out ?_)
    | (refine wpList_eql_id rfl _ _ rfl ho ho rfl rfl ?_; rw [beq_self_eq_true]))
  go_ret
  exact ⟨rfl, hb⟩

end Go.Proofs.YtaopohacelmglaaDoor

/-
  The document's names: what stands for names and numbers.
-/
namespace Go.Proofs.YtaopohacelmglaaDoor
open Go.RowKit

set_option maxRecDepth 20000 in
set_option maxHeartbeats 8000000 in
theorem rnames_any {w : World} {g : Nat} {x : Opv} {A B : Option Addr} {n c d : Nat} {l P : List Bs} (hL : Tg.Ss w B n d l) (hO : OpB w g x) (hS : Tg.Ss w A n c P) (hp : ∀ p ∈ P, p.length ≤ 4096) (hA : ∀ q, blk A = some q → q ≠ g) (hB : ∀ q, blk B = some q → q ≠ g) :
    Calls Tryd.prog 29 #[.slice B n d, .slice A n c, .pointer (some ⟨g, 0, none⟩)] w (Filled x g (fillF l P x.o) w) := by
  have hPl : P.length = n := by have := Rd.len hS; simpa using this
  have HPL := Lib.hid hPl
  have hn : l.length = n := by have := Rd.len hL; simpa using this
  have HN := Lib.hid hn
  have hnil := Rd.nil hS
  have hle := Rd.le hS
  have hnilB := Rd.nil hL
  have hleB := Rd.le hL
  have hmx := Rd.max hS
  unfold maxLen at hmx
  have hlt := hO.lt
  have HS := Lib.hid (fun W (hg : w.grownBy W (some g)) => Rd.grown hS hg (fun q hq e => hA q hq (Option.some.inj e).symm))
  have HRD := Lib.hid (fun W (hg : w.grownBy W (some g)) => Rd.grown hL hg (fun q hq e => hB q hq (Option.some.inj e).symm))
  have HPP := Lib.hid hp
  have hgr0 : w.grownBy w (some g) := ⟨rfl, rfl, rfl, Nat.le_refl _, fun _ _ _ => rfl⟩
  clear hPl hn hS hA hp hL hB
  go_enter Tryd.func29, Tryd.ntmps29
  go_wp2_with fail
  go_loopw [7] (fun i wr => ∃ (k : Nat) (o : OpR), k ≤ n ∧ i = .int .i64 k ∧ OpB wr g { x with o := o } ∧ w.grownBy wr (some g) ∧ Hid (fillF l P x.o = fillF (l.drop k) (P.drop k) o)) (fun i _ => n - (intOf i).toNat)
  case atStart => exact ⟨0, x.o, by omega, rfl, hO, hgr0, rfl⟩
  case round =>
    obtain ⟨k, o, hk, rfl, hOB, hgw, hF⟩ := hrel
    by_cases hkn : k < n
    · have hx : l[k]? = some (l[k]'(by rw [HN.out]; exact hkn)) := List.getElem?_eq_getElem _
      generalize l[k]'(by rw [HN.out]; exact hkn) = a at hx
      have hy : P[k]? = some (P[k]'(by rw [HPL.out]; exact hkn)) := List.getElem?_eq_getElem _
      generalize P[k]'(by rw [HPL.out]; exact hkn) = y at hy
      have hidx := run_index_rd (P := Tryd.prog) (A := B) (n := n) (c := d) Tg.es hnilB hleB k hkn
      have hidy := run_index_rd (P := Tryd.prog) (A := A) (n := n) (c := c) Tg.es hnil hle k hkn
      rw [Nat.mul_one] at hidx hidy
      have hcx := Rd.cell (HRD.out wr hgw) k (Tg.strV a) (by rw [List.getElem?_map, hx]; rfl)
      have hcy := Rd.cell (HS.out wr hgw) k (Tg.strV y) (by rw [List.getElem?_map, hy]; rfl)
      unfold Tg.strV at hcx hcy
      have hk' : (k : Int) < n := by omega
      have hyl := HPP.out y (List.mem_of_getElem? hy)
      have hsz := size_mk y
      have HCY := Lib.hid (fun W (hg : w.grownBy W (some g)) => Rd.cell (HS.out W hg) k (Tg.strV y) (by rw [List.getElem?_map, hy]; rfl))
      have hstep : fillF l P x.o = (fillS a y o).bind (fillF (l.drop (k + 1)) (P.drop (k + 1))) := by rw [hF.out, fill_drop hx hy]
      have HST := Lib.hid hstep
      clear hx hy hstep hF hkn
      by_cases c1 : a = nmW
      · subst c1
        have hc1 := hOB.cTn
        have hf1 := hOB.free 1
        have hO3 : OpB (wr.setCell ⟨g, 1, none⟩ (.string ⟨y.toArray⟩)) g { x with o := { o with tn := y } } := hOB.setTn y
        have hgw3 := grown_set hgw 1 (.string ⟨y.toArray⟩)
        have hcx3 := HCY.out _ hgw3
        unfold Tg.strV at hcx3
        have hc3 := hO3.cTn
        dsimp only at hc3 hc1
        obtain ⟨b, hb⟩ : ∃ b, Nm.nameB ⟨y.toArray⟩ = b := ⟨_, rfl⟩
        have HM := Lib.hid (fun W => Nm.RMay_any ⟨y.toArray⟩ W)
        rw [hb] at HM
        have hs : fillS nmW y o = if b = true then some { o with tn := y } else none := by
          unfold fillS
          rw [if_pos rfl, hb]
        have hs2 := HST.out
        rw [hs] at hs2
        unfold nmW at hcx
        clear hs hb
        cases b
        · have HE : Hid (fillF l P x.o = none) := hs2
          clear hs2
          go_wp2_with fail
          refine (HM.out _).mono ?_
          rintro e w3 ⟨rfl, rfl⟩
          go_wp2_with fail
          go_ret
          exact ⟨hgw3, .inl ⟨HE.out, rfl⟩⟩
        · have HG : Hid (fillF l P x.o = fillF (l.drop (k + 1)) (P.drop (k + 1)) { o with tn := y }) := hs2
          clear hs2
          go_wp2_with fail
          refine (HM.out _).mono ?_
          rintro e w3 ⟨rfl, rfl⟩
          go_wp2_with fail
          go_roundw
          case rel => exact ⟨k + 1, _, by omega, by go_num, hO3, hgw3, HG⟩
          case measure => simp [intOf]; omega
      · have d1 : (a == [78, 65, 77, 69]) = false := by simpa [nmW] using c1
        by_cases c2 : a = hxW
        · subst c2
          obtain ⟨⟨R, E⟩, hV⟩ : ∃ r, Nm.idR ⟨y.toArray⟩ = r := ⟨_, rfl⟩
          have HM := Lib.hid (fun W => Nm.RID_any ⟨y.toArray⟩ (by rw [hsz]; omega) W)
          have hR := Nm.idR_len ⟨y.toArray⟩
          rw [hV] at HM hR
          dsimp only at HM hR
          have hs : fillS hxW y o = if E = 0 then some { o with of := R } else none := by
            unfold fillS
            rw [if_neg (by decide), if_pos rfl, hV]
          have hs2 := HST.out
          rw [hs] at hs2
          unfold hxW at hcx
          clear hs hV c1 d1
          by_cases hE : E = 0
          · subst hE
            have HG : Hid (fillF l P x.o = fillF (l.drop (k + 1)) (P.drop (k + 1)) { o with of := R }) := hs2
            clear hs2
            go_wp2_with fail
            refine (HM.out _).mono ?_
            rintro e w3 ⟨rfl, hbl3⟩
            have hOB3 := hOB.below hbl3
            have hgw3 := grown_go hgw hbl3
            go_wp2_with (refine wpList_store_of rfl _ _ rfl (g := g) rfl (R := R) rfl hR hOB3 ?_; intro w4 hO4 hgr4 hz4; clear hz4; have hgw4 := hgw3.trans hgr4)
            go_roundw
            case rel => exact ⟨k + 1, _, by omega, by go_num, hO4, hgw4, HG⟩
            case measure => simp [intOf]; omega
          · have hE' : (E != 0) = true := by simpa using hE
            rw [if_neg hE] at hs2
            have HE : Hid (fillF l P x.o = none) := hs2
            clear hs2 hE
            go_wp2_with fail
            refine (HM.out _).mono ?_
            rintro e w3 ⟨rfl, hbl3⟩
            have hOB3 := hOB.below hbl3
            have hgw3 := grown_go hgw hbl3
            go_wp2_with (refine wpList_store_of rfl _ _ rfl (g := g) rfl (R := R) rfl hR hOB3 ?_; intro w4 hO4 hgr4 hz4; clear hz4; have hgw4 := hgw3.trans hgr4)
            go_ret
            exact ⟨hgw4, .inl ⟨HE.out, rfl⟩⟩
        · have d2 : (a == [72, 69, 88]) = false := by simpa [hxW] using c2
          by_cases c3 : a = nrW
          · subst c3
            have hc1 := hOB.cNum
            have hf1 := hOB.free 34
            dsimp only at hc1
            obtain ⟨⟨V, E⟩, hV⟩ : ∃ r, Nm.numR ⟨y.toArray⟩ = r := ⟨_, rfl⟩
            have HM := Lib.hid (fun W => Nm.RNumber_any ⟨y.toArray⟩ (by rw [hsz]; omega) W)
            rw [hV] at HM
            dsimp only at HM
            have hO3 : OpB (wr.setCell ⟨g, 34, none⟩ (.int .i64 V)) g { x with o := { o with num := V } } := hOB.setNum V
            have hgw3 := grown_set hgw 34 (.int .i64 V)
            have hs : fillS nrW y o = if E = 0 then some { o with num := V } else none := by
              unfold fillS
              rw [if_neg (by decide), if_neg (by decide), if_pos rfl, hV]
            have hs2 := HST.out
            rw [hs] at hs2
            unfold nrW at hcx
            clear hs hV c1 d1 c2 d2
            by_cases hE : E = 0
            · subst hE
              have HG : Hid (fillF l P x.o = fillF (l.drop (k + 1)) (P.drop (k + 1)) { o with num := V }) := hs2
              clear hs2
              go_wp2_with fail
              refine (HM.out _).mono ?_
              rintro e w3 ⟨rfl, rfl⟩
              go_wp2_with fail
              go_roundw
              case rel => exact ⟨k + 1, _, by omega, by go_num, hO3, hgw3, HG⟩
              case measure => simp [intOf]; omega
            · have hE' : (E != 0) = true := by simpa using hE
              rw [if_neg hE] at hs2
              have HE : Hid (fillF l P x.o = none) := hs2
              clear hs2 hE
              go_wp2_with fail
              refine (HM.out _).mono ?_
              rintro e w3 ⟨rfl, rfl⟩
              go_wp2_with fail
              go_ret
              exact ⟨hgw3, .inl ⟨HE.out, rfl⟩⟩
          · have d3 : (a == [78]) = false := by simpa [nrW] using c3
            have hs : fillS a y o = some o := by
              unfold fillS
              rw [if_neg c1, if_neg c2, if_neg c3]
            have hs2 := HST.out
            rw [hs] at hs2
            have HG : Hid (fillF l P x.o = fillF (l.drop (k + 1)) (P.drop (k + 1)) o) := hs2
            clear hs hs2 c1 c2 c3
            go_wp2_with fail
            go_roundw
            case rel => exact ⟨k + 1, o, by omega, by go_num, hOB, hgw, HG⟩
            case measure => simp [intOf]; omega
    · obtain rfl : k = n := by omega
      have hend : fillF l P x.o = some o := by
        rw [hF.out, List.drop_eq_nil_of_le (by rw [HN.out]; exact Nat.le_refl _)]
        rfl
      have HE := Lib.hid hend
      clear hkn hend hF
      go_wp2_with fail
      go_ret
      exact ⟨hgw, .inr ⟨o, HE.out, rfl, hOB⟩⟩

end Go.Proofs.YtaopohacelmglaaDoor

/-
  The document's value of a parameter; has.
-/
namespace Go.Proofs.YtaopohacelmglaaDoor
open Go.RowKit

theorem cell_far {w : World} {g i k j : Nat} {v u : Value} (hne : g ≠ k) (h : w.cell? ⟨k, j, none⟩ = some u) : (w.setCell ⟨g, i, none⟩ v).cell? ⟨k, j, none⟩ = some u := by
  rw [← h]
  exact World.cell?_of_block (cells_other hne)

set_option maxRecDepth 20000 in
set_option maxHeartbeats 8000000 in
theorem rvalue_any {w : World} {g : Nat} {x : Opv} (q : Tg.Pm) (hO : OpB w g x) (hp : q.2.length ≤ 4096) :
    Calls Tryd.prog 54 #[.agg (Tg.prA q.1 q.2), .pointer (some ⟨g, 0, none⟩)] w (Filled x g (valR q x.o) w) := by
  obtain ⟨y, z⟩ := q
  dsimp only at hp ⊢
  have hszz := size_mk z
  have hlt := hO.lt
  obtain ⟨⟨V, E⟩, hV⟩ : ∃ r, Nm.numR ⟨z.toArray⟩ = r := ⟨_, rfl⟩
  obtain ⟨⟨R, F⟩, hR⟩ : ∃ r, Rt.parseP z 16 0 = r := ⟨_, rfl⟩
  obtain ⟨b, hb⟩ : ∃ b, Nm.nameB ⟨z.toArray⟩ = b := ⟨_, rfl⟩
  have HNU := Lib.hid (fun W => Nm.RNumber_any ⟨z.toArray⟩ (by rw [hszz]; omega) W)
  have HPA := Lib.hid (fun W => Rt.RParse_any z W)
  have HMA := Lib.hid (fun W => Nm.RMay_any ⟨z.toArray⟩ W)
  rw [hV] at HNU
  rw [hR] at HPA
  rw [hb] at HMA
  dsimp only at HNU HPA
  have hv : valR (y, z) x.o = if y = quW then (if E = 0 then some { x.o with num := V } else none) else if y = unW then (if E = 0 then some { x.o with til := V } else none) else if y = riW then (if F = 0 then some { x.o with rts := R } else none) else (if b = true then some { x.o with tn := z } else none) := by
    unfold valR
    rw [hV, hR, hb]
  have HV := Lib.hid hv
  clear hv hV hR hb
  go_enter Tryd.func54, Tryd.ntmps54
  go_upto_region 1 with (refine wpList_box rfl _ _ rfl (Tg.prA y z) rfl ?_; intro w1 hg1 hb1 hz1; clear hz1)
  have hc0 := (Tg.cell_pr hg1).1
  have hc1 := (Tg.cell_pr hg1).2
  have hO1 := hO.below hb1
  have hgr1 : w.grownBy w1 (some g) := ⟨hb1.os, hb1.tape, hb1.output, hb1.size, fun k hk _ => hb1.block k hk⟩
  have hne : g ≠ w.heap.size := by omega
  clear hg1 hb1 hO
  by_cases c1 : y = quW
  · subst c1
    have hv := HV.out
    rw [if_pos rfl] at hv
    have hcn := hO1.cNum
    have hf1 := hO1.free 34
    have hO3 := hO1.setNum V
    have hgw3 := grown_set hgr1 34 (.int .i64 V)
    unfold quW at hc0
    by_cases hE : E = 0
    · subst hE
      have HE : Hid (valR (quW, z) x.o = some { x.o with num := V }) := hv
      clear hv HV
      go_wp2_with fail
      refine (HNU.out _).mono ?_
      rintro e w3 ⟨rfl, rfl⟩
      go_wp2_with fail
      go_ret
      exact ⟨hgw3, .inr ⟨_, HE.out, rfl, hO3⟩⟩
    · rw [if_neg hE] at hv
      have HE : Hid (valR (quW, z) x.o = none) := hv
      have hE' : (E == 0) = false := by simpa using hE
      clear hv HV hE
      go_wp2_with fail
      refine (HNU.out _).mono ?_
      rintro e w3 ⟨rfl, rfl⟩
      go_wp2_with fail
      go_ret
      exact ⟨hgw3, .inl ⟨HE.out, rfl⟩⟩
  · have d1 : (y == [113, 117, 111, 116, 97]) = false := by simpa [quW] using c1
    by_cases c2 : y = unW
    · subst c2
      have hv := HV.out
      rw [if_neg c1, if_pos rfl] at hv
      have hcn := hO1.cTil
      have hf1 := hO1.free 35
      have hO3 := hO1.setTil V
      have hgw3 := grown_set hgr1 35 (.int .i64 V)
      unfold unW at hc0
      clear c1 d1
      by_cases hE : E = 0
      · subst hE
        have HE : Hid (valR (unW, z) x.o = some { x.o with til := V }) := hv
        clear hv HV
        go_wp2_with fail
        refine (HNU.out _).mono ?_
        rintro e w3 ⟨rfl, rfl⟩
        go_wp2_with fail
        go_ret
        exact ⟨hgw3, .inr ⟨_, HE.out, rfl, hO3⟩⟩
      · rw [if_neg hE] at hv
        have HE : Hid (valR (unW, z) x.o = none) := hv
        have hE' : (E == 0) = false := by simpa using hE
        clear hv HV hE
        go_wp2_with fail
        refine (HNU.out _).mono ?_
        rintro e w3 ⟨rfl, rfl⟩
        go_wp2_with fail
        go_ret
        exact ⟨hgw3, .inl ⟨HE.out, rfl⟩⟩
    · have d2 : (y == [117, 110, 116, 105, 108]) = false := by simpa [unW] using c2
      by_cases c3 : y = riW
      · subst c3
        have hv := HV.out
        rw [if_neg c1, if_neg c2, if_pos rfl] at hv
        have hcn := hO1.cRts
        have hf1 := hO1.free 36
        have hO3 := hO1.setRts R
        have hgw3 := grown_set hgr1 36 (.int .u8 (R : Int))
        unfold riW at hc0
        clear c1 d1 c2 d2
        by_cases hE : F = 0
        · subst hE
          have HE : Hid (valR (riW, z) x.o = some { x.o with rts := R }) := hv
          clear hv HV
          go_wp2_with fail
          refine (HPA.out _).mono ?_
          rintro e w3 ⟨rfl, rfl⟩
          go_wp2_with fail
          go_ret
          exact ⟨hgw3, .inr ⟨_, HE.out, rfl, hO3⟩⟩
        · rw [if_neg hE] at hv
          have HE : Hid (valR (riW, z) x.o = none) := hv
          have hE' : (F == 0) = false := by simpa using hE
          clear hv HV hE
          go_wp2_with fail
          refine (HPA.out _).mono ?_
          rintro e w3 ⟨rfl, rfl⟩
          go_wp2_with fail
          go_ret
          exact ⟨hgw3, .inl ⟨HE.out, rfl⟩⟩
      · have d3 : (y == [114, 105, 103, 104, 116, 115]) = false := by simpa [riW] using c3
        have hv := HV.out
        rw [if_neg c1, if_neg c2, if_neg c3] at hv
        have hcn := hO1.cTn
        have hf1 := hO1.free 1
        have hO3 := hO1.setTn z
        have hgw3 := grown_set hgr1 1 (.string ⟨z.toArray⟩)
        have hc3 : (w1.setCell ⟨g, 1, none⟩ (.string ⟨z.toArray⟩)).cell? ⟨w.heap.size, 1, none⟩ = some (Tg.strV z) := cell_far hne hc1
        unfold Tg.strV at hc1 hc3
        clear c1 c2 c3
        cases b
        · have HE : Hid (valR (y, z) x.o = none) := hv
          clear hv HV
          go_wp2_with fail
          refine (HMA.out _).mono ?_
          rintro e w3 ⟨rfl, rfl⟩
          go_wp2_with fail
          go_ret
          exact ⟨hgw3, .inl ⟨HE.out, rfl⟩⟩
        · have HE : Hid (valR (y, z) x.o = some { x.o with tn := z }) := hv
          clear hv HV
          go_wp2_with fail
          refine (HMA.out _).mono ?_
          rintro e w3 ⟨rfl, rfl⟩
          go_wp2_with fail
          go_ret
          exact ⟨hgw3, .inr ⟨_, HE.out, rfl, hO3⟩⟩

theorem rhas_any {w : World} {A : Option Addr} {n c : Nat} {l : List Bs} (hS : Tg.Ss w A n c l) (hn : n ≤ 1048577) (s : Bs) :
    Calls Tryd.prog 53 #[.slice A n c, .string ⟨s.toArray⟩] w fun e w' => e = .returned (.bool (l.contains s)) ∧ w = w' := by
  have hPl : l.length = n := by have := Rd.len hS; simpa using this
  have HPL := Lib.hid hPl
  have hnil := Rd.nil hS
  have hle := Rd.le hS
  have HS := Lib.hid hS
  clear hPl hS
  go_enter Tryd.func53, Tryd.ntmps53
  go_wp2_with fail
  go_loopw [5] (fun i wr => ∃ k : Nat, k ≤ n ∧ i = .int .i64 k ∧ w = wr ∧ Hid (∀ (j : Nat) y, j < k → l[j]? = some y → y ≠ s)) (fun i _ => n - (intOf i).toNat)
  case atStart => exact ⟨0, by omega, rfl, rfl, (show ∀ (j : Nat) y, j < 0 → _ from fun j y h => absurd h (by omega))⟩
  case round =>
    obtain ⟨k, hk, rfl, rfl, hH⟩ := hrel
    by_cases hkn : k < n
    · have hx : l[k]? = some (l[k]'(by rw [HPL.out]; exact hkn)) := List.getElem?_eq_getElem _
      generalize l[k]'(by rw [HPL.out]; exact hkn) = y at hx
      have hidx := run_index_rd (P := Tryd.prog) (A := A) (n := n) (c := c) Tg.es hnil hle k hkn
      rw [Nat.mul_one] at hidx
      have hcx := Rd.cell HS.out k (Tg.strV y) (by rw [List.getElem?_map, hx]; rfl)
      unfold Tg.strV at hcx
      have hk' : (k : Int) < n := by omega
      by_cases he : y = s
      · have he' : (y == s) = true := by simpa using he
        have HE : Hid (l.contains s = true) := by
          show _ = _
          rw [List.contains_iff_mem, ← he]
          exact List.mem_of_getElem? hx
        clear hkn hx he hH
        go_wp2_with fail
        go_ret
        rw [HE.out]
        exact ⟨rfl, rfl⟩
      · have he' : (y == s) = false := by simpa using he
        have HH : Hid (∀ (j : Nat) y, j < k + 1 → l[j]? = some y → y ≠ s) := fun j u hj hu => by
          by_cases hjk : j < k
          · exact hH.out j u hjk hu
          · obtain rfl : j = k := by omega
            rw [hx] at hu
            obtain rfl := Option.some.inj hu
            exact he
        clear hkn hx he hH
        go_wp2_with fail
        go_roundw
        case rel => exact ⟨k + 1, by omega, by go_num, by trivial, HH⟩
        case measure => simp [intOf]; omega
    · obtain rfl : k = n := by omega
      have HE : Hid (l.contains s = false) := by
        show _ = _
        rw [← Bool.not_eq_true, List.contains_iff_mem]
        intro hm
        obtain ⟨j, hj⟩ := List.mem_iff_getElem?.1 hm
        exact hH.out j s (by rw [← HPL.out]; exact (List.getElem?_eq_some_iff.1 hj).1) hj rfl
      clear hkn hH
      go_wp2_with fail
      go_ret
      rw [HE.out]
      exact ⟨rfl, rfl⟩

end Go.Proofs.YtaopohacelmglaaDoor

/-
  The document's parameters of a road.
-/
namespace Go.Proofs.YtaopohacelmglaaDoor
open Go.RowKit

theorem cell_rroad {w : World} {g : Nat} {r : RRoad} {t : TypeId} {fr : Nat × Nat} (h : w.heap[g]? = some (.cells (rroadA r) t fr)) : w.cell? ⟨g, 0, none⟩ = some (.string ⟨r.m.toArray⟩) ∧ w.cell? ⟨g, 1, none⟩ = some (.string ⟨r.p.toArray⟩) ∧ w.cell? ⟨g, 2, none⟩ = some (.string ⟨r.must.toArray⟩) ∧ w.cell? ⟨g, 3, none⟩ = some (.string ⟨r.may.toArray⟩) ∧ w.cell? ⟨g, 4, none⟩ = some (.int .i64 (r.d : Int)) := by
  refine ⟨?_, ?_, ?_, ?_, ?_⟩ <;> (simp only [World.cell?, h]; rfl)
theorem objon {w w' : World} {g : Nat} {x : Obj} (h : w.heap[g]? = some x) (hb : Below w.heap.size w w') : w'.heap[g]? = some x := (hb.block g (Array.getElem?_eq_some_iff.1 h).1).trans h
theorem drewB {w : World} : Below w.heap.size w w.drew := (Below.refl _ _).drew
theorem get_any {Q : List Tg.Pm} {y : Bs} : (Tg.getF Q y).2 = Q.any (fun p => p.1 == y) := by
  unfold Tg.getF
  cases h : Q.find? (Tg.isN y) with
  | none =>
    have := List.find?_eq_none.1 h
    symm
    rw [List.any_eq_false]
    intro q hq
    exact this q hq
  | some q =>
    have h1 := List.find?_some h
    have h2 := List.mem_of_find?_eq_some h
    symm
    rw [List.any_eq_true]
    exact ⟨q, h2, h1⟩
section
variable {must may : List Bs} {Q : List Tg.Pm} {o0 o o' : OpR} {k : Nat} {p : Tg.Pm} {y : Bs}
theorem must_no (hx : must[k]? = some y) (h : (Tg.getF Q y).2 = false) : paramsR must may Q o0 = none := by
  unfold paramsR
  refine if_neg fun ha => ?_
  have := List.all_eq_true.1 ha y (List.mem_of_getElem? hx)
  rw [← get_any, h] at this
  cases this
theorem must_all (h : ∀ (j : Nat) y, must[j]? = some y → (Tg.getF Q y).2 = true) : paramsR must may Q o0 = parR must may Q o0 := by
  unfold paramsR
  refine if_pos (List.all_eq_true.2 fun y hy => ?_)
  obtain ⟨j, hj⟩ := List.mem_iff_getElem?.1 hy
  rw [← get_any, h j y hj]
theorem par_drop (hx : Q[k]? = some p) (o : OpR) : parR must may (Q.drop k) o = if must.contains p.1 || may.contains p.1 then (valR p o).bind (parR must may (Q.drop (k + 1))) else none := by
  obtain ⟨h1, e1⟩ := List.getElem?_eq_some_iff.1 hx
  rw [List.drop_eq_getElem_cons h1, e1]
  rfl
theorem par_end (h : Q.length ≤ k) (o : OpR) : parR must may (Q.drop k) o = some o := by
  rw [List.drop_eq_nil_of_le h]
  rfl
end

set_option maxRecDepth 20000 in
set_option maxHeartbeats 8000000 in
theorem rparams_any {w : World} {g : Nat} {x : Opv} {B : Option Addr} {m d : Nat} {Q : List Tg.Pm} (r : RRoad) (must may : List Bs) (hm : cutF 44 r.must = must) (hy : cutF 44 r.may = may) (hl1 : r.must.length ≤ 1000) (hl2 : r.may.length ≤ 1000)
    (hO : OpB w g x) (hQ : Tg.Ps w B m d Q) (hn : m ≤ 1048577) (hp : ∀ q ∈ Q, q.2.length ≤ 4096) (hB : ∀ q, blk B = some q → q ≠ g) :
    Calls Tryd.prog 30 #[.agg (rroadA r), .slice B m d, .pointer (some ⟨g, 0, none⟩)] w (Filled x g (paramsR must may Q x.o) w) := by
  have HQL := Lib.hid hQ.len
  have HQ := Lib.hid (fun W (hg : w.grownBy W (some g)) => (Rd.grown hQ hg (fun q hq e => hB q hq (Option.some.inj e).symm) : Tg.Ps W B m d Q))
  have HPP := Lib.hid hp
  have hlt := hO.lt
  have HC1 : Hid (∀ W, Calls Tryd.prog 27 #[.string ⟨r.must.toArray⟩, .int .u8 44] W fun e w' => ∃ A n cc, e = .returned (.slice A n cc) ∧ Own w' W.heap.size 9 1 A n cc ((cutF 44 r.must).map Tg.strV) ∧ Below W.heap.size W w') := fun W => rcut_any 44 r.must hl1 W
  have HC2 : Hid (∀ W, Calls Tryd.prog 27 #[.string ⟨r.may.toArray⟩, .int .u8 44] W fun e w' => ∃ A n cc, e = .returned (.slice A n cc) ∧ Own w' W.heap.size 9 1 A n cc ((cutF 44 r.may).map Tg.strV) ∧ Below W.heap.size W w') := fun W => rcut_any 44 r.may hl2 W
  have hcl : ∀ s : Bs, s.length ≤ 1000 → (cutF 44 s).length ≤ 1001 := fun s hs => by
    unfold cutF
    split
    · simp
    · have := (Tg.split1_le 44 s).1
      omega
  have hml := hcl r.must hl1
  have hyl := hcl r.may hl2
  rw [hm] at HC1 hml
  rw [hy] at HC2 hyl
  clear hQ hp hB hcl hm hy
  go_enter Tryd.func30, Tryd.ntmps30
  go_upto_region 1 with (refine wpList_box rfl _ _ rfl (rroadA r) rfl ?_; intro w1 hg1 hb1 hz1; clear hz1)
  have pm := fun b : Later w1 => (cell_rroad (objon hg1 b.below)).2.2.1
  have py := fun b : Later w1 => (cell_rroad (objon hg1 b.below)).2.2.2.1
  have hO1 := hO.below hb1
  refine wp_region_plan (MPlan.reads [0, 1, 3, 4] (.one 2 (.one 5 (MPlan.reads [6, 7] .fin)))) (fun x => ∃ b : Later w1, x = b.at') (by kernel_rfl) (by kernel_rfl) (by kernel_rfl) (fun _ _ _ _ _ h => h) ⟨⟨w1.drew, drewB⟩, rfl⟩ ?_
  iterate 4 (refine plan_read (o := ⟨_, _, _, _, _, _⟩) (by rfl) (by rfl) ?_; go_big_quiet_step (fail); refine wpQuiet_nil ?_)
  refine plan_one (o := ⟨_, _, _, _, _, _⟩) (by rfl) (fun K hK => ?_)
  go_wp2_with fail
  refine (HC1.out _).mono ?_
  rintro e w2 ⟨A1, n1, c1, rfl, ho1, hbl2⟩
  have hb2 : Below w1.heap.size w1 w2 := drewB.trans hbl2
  go_wp2_with fail
  refine hK _ _ ⟨⟨w2, hb2⟩, rfl⟩ ?_
  clear hK hbl2
  refine plan_one (o := ⟨_, _, _, _, _, _⟩) (by rfl) (fun K hK => ?_)
  go_wp2_with fail
  refine (HC2.out _).mono ?_
  rintro e w3 ⟨A2, n2, c2, rfl, ho2, hbl3⟩
  have hb3 : Below w1.heap.size w1 w3 := hb2.trans (hbl3.mono hb2.size)
  have ho13 : Own w3 w1.heap.size 9 1 A1 n1 c1 (must.map Tg.strV) := ho1.below hbl3
  have ho23 := ho2.mono hb2.size
  go_wp2_with fail
  refine hK _ _ ⟨⟨w3, hb3⟩, rfl⟩ ?_
  clear hK hbl3 ho1 ho2 hb2
  iterate 2 (refine plan_read (o := ⟨_, _, _, _, _, _⟩) (by rfl) (by rfl) ?_; go_big_quiet_step (fail); refine wpQuiet_nil ?_)
  refine plan_fin ?_
  have hO3 := hO1.below hb3
  have hb03 := hb1.trans (hb3.mono hb1.size)
  have hgr3 : w.grownBy w3 (some g) := ⟨hb03.os, hb03.tape, hb03.output, hb03.size, fun k hk _ => hb03.block k hk⟩
  have hs1 := hb1.size
  have HM := Lib.hid (fun W (hg : w3.grownBy W (some g)) => (ho13.grown hg (fun q hq e => by have h1 := (ho13.lt q hq).1; have e' : g = q := Option.some.inj e; omega)).rd)
  have HY := Lib.hid (fun W (hg : w3.grownBy W (some g)) => (ho23.grown hg (fun q hq e => by have h1 := (ho23.lt q hq).1; have e' : g = q := Option.some.inj e; omega)).rd)
  have hn1 : must.length = n1 := by have := ho13.rd.len; simpa using this
  have hn2 : may.length = n2 := by have := ho23.rd.len; simpa using this
  have HN1 := Lib.hid hn1
  have hnilA := ho13.rd.nil
  have hleA := ho13.rd.le
  have hrf : w3.grownBy w3 (some g) := ⟨rfl, rfl, rfl, Nat.le_refl _, fun _ _ _ => rfl⟩
  clear pm py hO1 hO hg1 hb1 hb3 hb03 ho13 ho23
  go_wp2_with fail
  go_loopw [9] (fun i wr => ∃ k : Nat, k ≤ n1 ∧ i = .int .i64 k ∧ OpB wr g x ∧ w.grownBy wr (some g) ∧ w3.grownBy wr (some g) ∧ Hid (∀ (j : Nat) y, j < k → must[j]? = some y → (Tg.getF Q y).2 = true)) (fun i _ => n1 - (intOf i).toNat)
  case atStart => exact ⟨0, by omega, rfl, hO3, hgr3, hrf, (show ∀ (j : Nat) y, j < 0 → _ from fun j y h => absurd h (by omega))⟩
  case round =>
    obtain ⟨k, hk, rfl, hOr, hgr, hg3, hH⟩ := hrel
    clear hO3 hgr3
    by_cases hkn : k < n1
    · have hx : must[k]? = some (must[k]'(by rw [HN1.out]; exact hkn)) := List.getElem?_eq_getElem _
      generalize must[k]'(by rw [HN1.out]; exact hkn) = y at hx
      have hidx := run_index_rd (P := Tryd.prog) (A := A1) (n := n1) (c := c1) Tg.es hnilA hleA k hkn
      rw [Nat.mul_one] at hidx
      have hcx := Rd.cell (HM.out wr hg3) k (Tg.strV y) (by rw [List.getElem?_map, hx]; rfl)
      unfold Tg.strV at hcx
      have hk' : (k : Int) < n1 := by omega
      have HG := Lib.hid (Tg.RGet_any (A := none) (n := 0) (c := 0) (HQ.out wr hgr) hn y)
      unfold Tg.Gotten at HG
      obtain ⟨⟨V, b⟩, hV⟩ : ∃ r, Tg.getF Q y = r := ⟨_, rfl⟩
      rw [hV] at HG
      dsimp only at HG
      cases b
      · have HE := Lib.hid (must_no (may := may) (o0 := x.o) hx (by rw [hV]))
        clear hkn hx hV hH
        go_wp2_with fail
        refine HG.out.mono ?_
        rintro e w4 ⟨rfl, hbl4⟩
        go_wp2_with fail
        go_ret
        exact ⟨grown_go hgr hbl4, .inl ⟨HE.out, rfl⟩⟩
      · have HH : Hid (∀ (j : Nat) y, j < k + 1 → must[j]? = some y → (Tg.getF Q y).2 = true) := fun j u hj hu => by
          by_cases hjk : j < k
          · exact hH.out j u hjk hu
          · obtain rfl : j = k := by omega
            rw [hx] at hu
            obtain rfl := Option.some.inj hu
            rw [hV]
        clear hkn hx hV hH
        go_wp2_with fail
        refine HG.out.mono ?_
        rintro e w4 ⟨rfl, hbl4⟩
        go_wp2_with fail
        go_roundw
        case rel => exact ⟨k + 1, by omega, by go_num, hOr.below hbl4, grown_go hgr hbl4, grown_go hg3 hbl4, HH⟩
        case measure => simp [intOf]; omega
    · obtain rfl : k = n1 := by omega
      have HPA := Lib.hid (must_all (may := may) (o0 := x.o) fun j y hj => hH.out j y (by rw [← HN1.out]; exact (List.getElem?_eq_some_iff.1 hj).1) hj)
      have HP0 : Hid (paramsR must may Q x.o = parR must may (Q.drop 0) x.o) := HPA.out
      clear hkn hH HPA
      go_wp2_with fail
      go_loopw [12] (fun i wr => ∃ (k : Nat) (o : OpR), k ≤ m ∧ i = .int .i64 k ∧ OpB wr g { x with o := o } ∧ w.grownBy wr (some g) ∧ w3.grownBy wr (some g) ∧ Hid (paramsR must may Q x.o = parR must may (Q.drop k) o)) (fun i _ => m - (intOf i).toNat)
      case atStart => exact ⟨0, x.o, by omega, rfl, hOr, hgr, hg3, HP0⟩
      case round =>
        clear hOr hgr hg3 HP0
        obtain ⟨k, o, hk, rfl, hOr, hgr, hg3, hF⟩ := hrel
        by_cases hkm : k < m
        · have hx : Q[k]? = some (Q[k]'(by rw [HQL.out]; exact hkm)) := List.getElem?_eq_getElem _
          generalize Q[k]'(by rw [HQL.out]; exact hkm) = q at hx
          have hQr : Tg.Ps wr B m d Q := HQ.out wr hgr
          have hidx := fun W => hQr.idx hkm W
          have hd0 := hQr.name hx
          have HLD := Lib.hid (hQr.load hx)
          have hk' : (k : Int) < m := by omega
          have hql := HPP.out q (List.mem_of_getElem? hx)
          have HV := Lib.hid (rvalue_any q hOr hql)
          unfold Tg.strV at hd0
          have HB1 := Lib.hid (fun W (hg : w3.grownBy W (some g)) => rhas_any (HM.out W hg) (by omega) q.1)
          have HB2 := Lib.hid (fun W (hg : w3.grownBy W (some g)) => rhas_any (HY.out W hg) (by omega) q.1)
          have hstep := par_drop (must := must) (may := may) hx o
          have hF2 := hF.out.trans hstep
          obtain ⟨u1, hu1⟩ : ∃ b, must.contains q.1 = b := ⟨_, rfl⟩
          obtain ⟨u2, hu2⟩ : ∃ b, may.contains q.1 = b := ⟨_, rfl⟩
          rw [hu1] at HB1 hF2
          rw [hu2] at HB2 hF2
          dsimp only at HV
          obtain ⟨F, hF1⟩ : ∃ F, valR q o = F := ⟨_, rfl⟩
          rw [hF1] at HV hF2
          unfold Filled at HV
          clear hkm hx hstep hu1 hu2 hF1 hF hQr hql
          cases u1
          · cases u2
            · have HE : Hid (paramsR must may Q x.o = none) := hF2
              clear hF2
              go_wp2_with fail
              refine (HB1.out _ hg3).mono ?_
              rintro e w4 ⟨rfl, rfl⟩
              go_wp2_with fail
              refine (HB2.out _ hg3).mono ?_
              rintro e w4 ⟨rfl, rfl⟩
              go_wp2_with fail
              go_ret
              exact ⟨hgr, .inl ⟨HE.out, rfl⟩⟩
            · go_wp2_with fail
              refine (HB1.out _ hg3).mono ?_
              rintro e w4 ⟨rfl, rfl⟩
              go_wp2_with fail
              refine (HB2.out _ hg3).mono ?_
              rintro e w4 ⟨rfl, rfl⟩
              go_wp2_with (refine wpList_load_run rfl _ _ rfl _ rfl _ HLD.out ?_)
              refine HV.out.mono ?_
              rintro e w5 ⟨hgr4, hres⟩
              rcases hres with ⟨rfl, rfl⟩ | ⟨o2, rfl, rfl, hO4⟩
              · have HE : Hid (paramsR must may Q x.o = none) := hF2
                clear hF2
                go_wp2_with fail
                go_ret
                exact ⟨hgr.trans hgr4, .inl ⟨HE.out, rfl⟩⟩
              · have HG : Hid (paramsR must may Q x.o = parR must may (Q.drop (k + 1)) o2) := hF2
                have hgr5 := hgr.trans hgr4
                have hg35 := hg3.trans hgr4
                clear hF2 hOr hgr hg3 hgr4
                go_wp2_with fail
                go_roundw
                case rel => exact ⟨k + 1, o2, by omega, by go_num, hO4, hgr5, hg35, HG⟩
                case measure => simp [intOf]; omega
          · go_wp2_with fail
            refine (HB1.out _ hg3).mono ?_
            rintro e w4 ⟨rfl, rfl⟩
            go_wp2_with (refine wpList_load_run rfl _ _ rfl _ rfl _ HLD.out ?_)
            refine HV.out.mono ?_
            rintro e w5 ⟨hgr4, hres⟩
            rcases hres with ⟨rfl, rfl⟩ | ⟨o2, rfl, rfl, hO4⟩
            · have HE : Hid (paramsR must may Q x.o = none) := hF2
              clear hF2
              go_wp2_with fail
              go_ret
              exact ⟨hgr.trans hgr4, .inl ⟨HE.out, rfl⟩⟩
            · have HG : Hid (paramsR must may Q x.o = parR must may (Q.drop (k + 1)) o2) := hF2
              have hgr5 := hgr.trans hgr4
              have hg35 := hg3.trans hgr4
              clear hF2 hOr hgr hg3 hgr4
              go_wp2_with fail
              go_roundw
              case rel => exact ⟨k + 1, o2, by omega, by go_num, hO4, hgr5, hg35, HG⟩
              case measure => simp [intOf]; omega
        · obtain rfl : k = m := by omega
          have HE : Hid (paramsR must may Q x.o = some o) := hF.out.trans (par_end (by rw [HQL.out]; exact Nat.le_refl _) o)
          clear hF hkm
          go_wp2_with fail
          go_ret
          exact ⟨hgr, .inr ⟨o, HE.out, rfl, hOr⟩⟩

end Go.Proofs.YtaopohacelmglaaDoor

/-
  The document's token.
-/
namespace Go.Proofs.YtaopohacelmglaaDoor
open Go.RowKit

theorem bear_take (v : Bs) : Lib.hasPrefix v bearW = (v.take 7 == bearW) := by
  unfold Lib.hasPrefix
  rw [Bool.eq_iff_iff, List.isPrefixOf_iff_prefix, List.prefix_iff_eq_take, beq_iff_eq]
  exact eq_comm
theorem dig_drop {v : Bs} (h : Lib.hasPrefix v bearW = true) : digF v = ⟨(v.drop 7).toArray⟩ := by
  unfold digF Lib.trimPrefix
  rw [if_pos h]
  rfl
theorem tokV_short {v : Bs} (h : v.length ≤ 8) (e : Int) : tokV v e = none := by
  unfold tokV
  refine if_neg ?_
  rintro ⟨_, h1, _, h3⟩
  have h4 := Nm.uxR_len (digF v)
  rw [dig_drop h1] at h4 h3
  rw [size_mk, List.length_drop] at h4
  exact h3 (List.eq_nil_of_length_eq_zero (by omega))
theorem tok_some {v : Bs} (h1 : Lib.hasPrefix v bearW = true) (hl : 9 ≤ v.length) (h2 : (Nm.uxR (digF v)).2 = 0) : (Nm.uxR (digF v)).1 ≠ [] := by
  by_cases h : Nm.hexS (digF v) ∧ (digF v).size % 2 = 0
  · rw [Nm.uxR_yes h]
    intro e
    have := congrArg List.length e
    dsimp only at this
    rw [Nm.pairL_length] at this
    have hs : (digF v).size = v.length - 7 := by rw [dig_drop h1, size_mk, List.length_drop]
    have hs2 : (digF v).data.toList.length = (digF v).size := Array.length_toList
    rw [hs2, hs] at this
    simp at this
    omega
  · rw [Nm.uxR_no h] at h2
    cases h2


set_option maxRecDepth 20000 in
set_option maxHeartbeats 8000000 in
theorem RToken_any {w : World} {A : Option Addr} {n c : Nat} {fs : List Fl.Fd} (h : Fl.Fds w A n c fs) (hn : n ≤ 1000) (hl : (Fl.getF fs autW).1.length ≤ 1048576) :
    Calls Tryd.prog 15 #[.slice A n c] w fun e w' => ∃ A' n' c', e = .returned (.slice A' n' c') ∧ Own w' w.heap.size 5 1 A' n' c' ((tokF fs).map b8) ∧ Below w.heap.size w w' := by
  have HC := Lib.hid (fun W (hb : Below w.heap.size w W) => Fl.RCount_any (h.below hb) hn autW)
  have HG := Lib.hid (fun W (hb : Below w.heap.size w W) => Fl.RGet_any (h.below hb) hn autW)
  unfold Fl.Got at HG
  unfold autW at HC HG
  rw [show ([97, 117, 116, 104, 111, 114, 105, 122, 97, 116, 105, 111, 110] : Bs) = autW from rfl] at HC HG
  obtain ⟨C, hC⟩ : ∃ C, Fl.cntF fs autW = C := ⟨_, rfl⟩
  have htf : ∀ v e, Fl.getF fs autW = (v, e) → tokF fs = if e = 5 then [] else (tokV v e).getD [0] := fun v e h => by unfold tokF; rw [h]
  rw [hC] at HC
  by_cases h0 : C = 0
  · subst h0
    have hg : Fl.getF fs autW = ([], 5) := by unfold Fl.getF; rw [if_pos hC]
    have HE : Hid (tokF fs = []) := by
      show _ = _
      rw [htf _ _ hg]
      exact if_pos rfl
    clear htf hg hC
    go_enter Tryd.func15, Tryd.ntmps15
    go_wp2_with fail
    unfold autW at HC
    refine (HC.out w (Below.refl _ _)).mono ?_
    rintro x w1 ⟨rfl, rfl⟩
    go_wp2_with fail
    go_ret
    exact ⟨_, _, _, rfl, by rw [HE.out]; exact Own.nil_ _ _ _ _, Below.refl _ _⟩
  · have hC0 : ((C : Int) == 0) = false := by simpa using h0
    obtain ⟨v, e, hg⟩ : ∃ v e, Fl.getF fs autW = (v, e) := ⟨_, _, rfl⟩
    have h5 : e ≠ 5 := by
      have : (Fl.getF fs autW).2 ≠ 5 := by
        unfold Fl.getF
        rw [if_neg (by rw [hC]; exact h0)]
        split <;> simp
      rw [hg] at this
      exact this
    have hT : tokF fs = (tokV v e).getD [0] := by rw [htf v e hg, if_neg h5]
    rw [hg] at HG hl
    dsimp only at HG hl
    unfold autW at HG
    have hno : tokV v e = none → tokF fs = [0] := fun h => by rw [hT, h]; rfl
    have HNO := Lib.hid hno
    have hV : tokV v e = if e = 0 ∧ Lib.hasPrefix v bearW = true ∧ (Nm.uxR (digF v)).2 = 0 ∧ (Nm.uxR (digF v)).1 ≠ [] then some (Nm.uxR (digF v)).1 else none := rfl
    have HV := Lib.hid hV
    have HT := Lib.hid hT
    have hsv := size_mk v
    unfold autW at HC
    clear htf h0 hC hg h5 hT hno hV h
    go_enter Tryd.func15, Tryd.ntmps15
    go_wp2_with fail
    refine (HC.out w (Below.refl _ _)).mono ?_
    rintro x w1 ⟨rfl, rfl⟩
    go_wp2_with fail
    refine (HG.out w (Below.refl _ _)).mono ?_
    rintro x w1 ⟨rfl, hb1⟩
    by_cases h0 : e = 0
    · subst h0
      by_cases h9 : (v.length : Int) < 9
      · have HE := Lib.hid (HNO.out (tokV_short (by omega) 0))
        have h9' : decide ((v.length : Int) < 9) = true := decide_eq_true h9
        clear h9
        go_wp2_with (refine wpList_lit1 (v := .int .u8 0) rfl rfl eb rfl (fill_u8 _) ?_; intro w3 hw3; have hr3 : Own w3 w.heap.size 5 1 (some ⟨w1.heap.size, 0, none⟩) 1 1 [.int .u8 0] := (by rw [hw3]; exact Own.lit w1 w.heap.size [.int .u8 0] 5 1 rfl (by unfold maxLen; omega) hb1.size); have hb3 := lit1_below hw3 hb1 hb1.size; clear hw3)
        go_ret
        exact ⟨_, _, _, rfl, by rw [HE.out]; exact hr3, hb3⟩
      · have h9' : decide ((v.length : Int) < 9) = false := decide_eq_false h9
        have hl9 : 9 ≤ v.length := by omega
        have hsl : ∀ W, (Instr.sliceAt 9 (.string ⟨v.toArray⟩) none (some (.int .i64 7)) none).run Tryd.prog W = .ok (.string ⟨(v.take 7).toArray⟩) W := fun W => run_str_h Tryd.underlying9 v 7 (by omega) W
        have hsd : ∀ W, (Instr.sliceAt 9 (.string ⟨v.toArray⟩) (some (.int .i64 7)) none none).run Tryd.prog W = .ok (.string ⟨(v.drop 7).toArray⟩) W := fun W => run_str_l Tryd.underlying9 v 7 (by omega) W
        have hbt := bear_take v
        obtain ⟨pf, hpf⟩ : ∃ b, Lib.hasPrefix v bearW = b := ⟨_, rfl⟩
        cases pf
        · have HE := Lib.hid (HNO.out (by rw [HV.out]; exact if_neg (by simp [hpf])))
          have hne : (v.take 7 == bearW) = false := by rw [← hbt, hpf]
          unfold bearW at hne
          clear h9 hbt hpf
          go_wp2_with (refine wpList_lit1 (v := .int .u8 0) rfl rfl eb rfl (fill_u8 _) ?_; intro w3 hw3; have hr3 : Own w3 w.heap.size 5 1 (some ⟨w1.heap.size, 0, none⟩) 1 1 [.int .u8 0] := (by rw [hw3]; exact Own.lit w1 w.heap.size [.int .u8 0] 5 1 rfl (by unfold maxLen; omega) hb1.size); have hb3 := lit1_below hw3 hb1 hb1.size; clear hw3)
          go_ret
          exact ⟨_, _, _, rfl, by rw [HE.out]; exact hr3, hb3⟩
        · have hq : (v.take 7 == bearW) = true := by rw [← hbt, hpf]
          have hq2 : v.take 7 = bearW := by simpa using hq
          have hdd := dig_drop hpf
          have hxs := fun h => tok_some hpf hl9 h
          have HU := Lib.hid (fun W => Nm.RUnhex_any (digF v) (by rw [hdd, size_mk, List.length_drop]; omega) W)
          rw [hdd] at HU hxs
          have hVV := HV.out
          rw [hdd] at hVV
          obtain ⟨D, hD⟩ : ∃ D, v.drop 7 = D := ⟨_, rfl⟩
          rw [hD] at HU hxs hsd hVV
          rw [hq2] at hsl
          obtain ⟨⟨X, E2⟩, hX⟩ : ∃ r, Nm.uxR ⟨D.toArray⟩ = r := ⟨_, rfl⟩
          rw [hX] at HU hxs hVV
          dsimp only at HU hxs hVV
          unfold bearW at hsl
          by_cases h2 : E2 = 0
          · subst h2
            have hX0 := hxs rfl
            have HE : Hid (tokF fs = X) := by
              show _ = _
              rw [HT.out, hVV, if_pos ⟨rfl, hpf, rfl, hX0⟩]
              rfl
            clear h9 hbt hpf hq hq2 hdd hxs hVV hD hX hX0
            go_wp2_with fail
            refine (HU.out _).mono ?_
            rintro x w2 ⟨A2, n2, c2, rfl, ho2, hbl2⟩
            have hb2 := hb1.trans (hbl2.mono hb1.size)
            go_wp2_with fail
            go_ret
            exact ⟨_, _, _, rfl, by rw [HE.out]; exact ho2.mono hb1.size, hb2⟩
          · have h2' : (E2 != 0) = true := by simpa using h2
            have HE := Lib.hid (HNO.out (by rw [hVV]; exact if_neg (by simp [h2])))
            clear h9 hbt hpf hq hq2 hdd hxs hVV hD hX h2
            go_wp2_with fail
            refine (HU.out _).mono ?_
            rintro x w2 ⟨A2, n2, c2, rfl, ho2, hbl2⟩
            have hb2 := hb1.trans (hbl2.mono hb1.size)
            go_wp2_with (refine wpList_lit1 (v := .int .u8 0) rfl rfl eb rfl (fill_u8 _) ?_; intro w3 hw3; have hr3 : Own w3 w.heap.size 5 1 (some ⟨w2.heap.size, 0, none⟩) 1 1 [.int .u8 0] := (by rw [hw3]; exact Own.lit w2 w.heap.size [.int .u8 0] 5 1 rfl (by unfold maxLen; omega) hb2.size); have hb3 := lit1_below hw3 hb2 hb2.size; clear hw3)
            go_ret
            exact ⟨_, _, _, rfl, by rw [HE.out]; exact hr3, hb3⟩
    · have h0' : (e != 0) = true := by simpa using h0
      have HE := Lib.hid (HNO.out (by rw [HV.out]; exact if_neg (by simp [h0])))
      clear h0
      go_wp2_with (refine wpList_lit1 (v := .int .u8 0) rfl rfl eb rfl (fill_u8 _) ?_; intro w3 hw3; have hr3 : Own w3 w.heap.size 5 1 (some ⟨w1.heap.size, 0, none⟩) 1 1 [.int .u8 0] := (by rw [hw3]; exact Own.lit w1 w.heap.size [.int .u8 0] 5 1 rfl (by unfold maxLen; omega) hb1.size); have hb3 := lit1_below hw3 hb1 hb1.size; clear hw3)
      go_ret
      exact ⟨_, _, _, rfl, by rw [HE.out]; exact hr3, hb3⟩

end Go.Proofs.YtaopohacelmglaaDoor

/-
  The document's answer to target: part. (Printed by wip/genTaL.py.)
-/
namespace Go.Proofs.YtaopohacelmglaaDoor.Tg
open Go.RowKit

def RParted (s : List UInt8) (k : Nat) (w : World) (e : Ending) (w' : World) : Prop :=
  Below w.heap.size w w' ∧ ((rpartF (s.drop k) = none ∧ ∃ q : Int, e = .returned (.tuple #[.string ⟨#[]⟩, .int .i64 q, .bool false])) ∨
    ∃ (o r : List UInt8) (j : Nat), rpartF (s.drop k) = some (o, r) ∧ j ≤ s.length ∧ s.drop j = r ∧ e = .returned (.tuple #[.string ⟨o.toArray⟩, .int .i64 (j : Int), .bool true]))
def rpK (s : List UInt8) (k j : Nat) (o : List UInt8) : Prop := rpartF (s.drop k) = (rpartF (s.drop j)).map (fun p => (o ++ p.1, p.2))
theorem rpK_start (s : List UInt8) (k : Nat) : rpK s k k [] := by
  unfold rpK
  cases rpartF (s.drop k) <;> rfl
theorem drop_at {s : List UInt8} {j : Nat} {x : UInt8} (hx : s[j]? = some x) : s.drop j = x :: s.drop (j + 1) := by
  obtain ⟨hk, he⟩ := List.getElem?_eq_some_iff.1 hx
  rw [List.drop_eq_getElem_cons hk, he]
theorem rpK_pl {s : List UInt8} {k j : Nat} {o : List UInt8} {x : UInt8} (h : rpK s k j o) (hx : s[j]? = some x) (hp : plB x = true) : rpK s k (j + 1) (o ++ [x]) := by
  unfold rpK at *
  rw [h, drop_at hx, rpartF_pl hp]
  cases rpartF (s.drop (j + 1)) <;> simp
theorem rpK_end {s : List UInt8} {k : Nat} {o : List UInt8} (h : rpK s k s.length o) : rpartF (s.drop k) = some (o, []) := by
  rw [h, List.drop_length]
  simp [rpartF]
theorem rpK_stop {s : List UInt8} {k j : Nat} {o : List UInt8} {x : UInt8} (h : rpK s k j o) (hx : s[j]? = some x) (hp : stopB x) : rpartF (s.drop k) = some (o, s.drop j) := by
  rw [h, drop_at hx, rpartF_stop hp]
  simp
theorem rpK_short {s : List UInt8} {k j : Nat} {o : List UInt8} (h : rpK s k j o) (hx : s[j]? = some 37) (hl : s.length ≤ j + 2) : rpartF (s.drop k) = none := by
  rw [h, drop_at hx, rpartF_short (by rw [List.length_drop]; omega)]
  rfl
theorem rpK_bad {s : List UInt8} {k j : Nat} {o : List UInt8} {a b : UInt8} (h : rpK s k j o) (hx : s[j]? = some 37) (ha : s[j + 1]? = some a) (hb : s[j + 2]? = some b) (he : escV a b = none) : rpartF (s.drop k) = none := by
  rw [h, drop_at hx, drop_at ha, drop_at hb, rpartF_esc, he]
  rfl
theorem rpK_esc {s : List UInt8} {k j : Nat} {o : List UInt8} {a b c : UInt8} (h : rpK s k j o) (hx : s[j]? = some 37) (ha : s[j + 1]? = some a) (hb : s[j + 2]? = some b) (he : escV a b = some c) : rpK s k (j + 3) (o ++ [c]) := by
  unfold rpK at *
  rw [h, drop_at hx, drop_at ha, drop_at hb, rpartF_esc, he]
  show Option.map _ (Option.map _ (rpartF (s.drop (j + 3)))) = _
  cases rpartF (s.drop (j + 3)) <;> simp
theorem resc_case (a b : UInt8) : (hx8 a < 0 ∧ escV a b = none) ∨ (0 ≤ hx8 a ∧ hx8 b < 0 ∧ escV a b = none) ∨ (0 ≤ hx8 a ∧ 0 ≤ hx8 b ∧ hx8 a + hx8 b = 0 ∧ escV a b = none) ∨
    (0 ≤ hx8 a ∧ 0 ≤ hx8 b ∧ hx8 a + hx8 b ≠ 0 ∧ ∃ N : Nat, N < 256 ∧ 16 * hx8 a + hx8 b = N ∧ escV a b = some (UInt8.ofNat N)) := by
  have a1 := hx_le a
  have b1 := hx_le b
  unfold escV
  by_cases hA : hx8 a < 0
  · exact .inl ⟨hA, if_pos (.inl hA)⟩
  · by_cases hB : hx8 b < 0
    · exact .inr (.inl ⟨by omega, hB, if_pos (.inr (.inl hB))⟩)
    · by_cases hz : hx8 a + hx8 b = 0
      · exact .inr (.inr (.inl ⟨by omega, by omega, hz, if_pos (.inr (.inr hz))⟩))
      · refine .inr (.inr (.inr ⟨by omega, by omega, hz, (hx8 a * 16 + hx8 b).toNat, by omega, by omega, if_neg (by omega)⟩))

set_option maxRecDepth 20000 in
set_option maxHeartbeats 8000000 in
theorem rpart_any (s : List UInt8) (hs : s.length ≤ 1048576) (k : Nat) (hk : k ≤ s.length) (w : World) : Calls Tryd.prog 46 #[.string ⟨s.toArray⟩, .int .i64 (k : Int)] w (RParted s k w) := by
  have hsz := size_mk s
  obtain ⟨L, hL⟩ : ∃ L, s.length = L := ⟨_, rfl⟩
  rw [hL] at hs hk hsz
  have HL := Lib.hid hL
  clear hL
  go_enter Tryd.func46, Tryd.ntmps46
  go_wp2_with fail
  go_loopw [1, 7] (fun av ov wr => ∃ (j : Nat) (o : List UInt8), k ≤ j ∧ j ≤ L ∧ av = .int .i64 (j : Int) ∧ ov = .string ⟨o.toArray⟩ ∧ o.length ≤ j ∧ Hid (rpK s k j o) ∧ Below w.heap.size w wr) (fun av _ _ => L - (intOf av).toNat)
  case atStart => exact ⟨k, [], by omega, hk, rfl, rfl, by simp, rpK_start s k, Below.refl _ _⟩
  case round =>
    obtain ⟨j, o, hkj, hj, rfl, rfl, hol, hH, hb⟩ := hrel
    have hso := size_mk o
    obtain ⟨lo, hlo⟩ : ∃ lo, o.length = lo := ⟨_, rfl⟩
    rw [hlo] at hso hol
    have HLO := Lib.hid hlo
    by_cases hjL : j < L
    · have hx : s[j]? = some (s[j]'(by rw [HL.out]; exact hjL)) := List.getElem?_eq_getElem _
      generalize s[j]'(by rw [HL.out]; exact hjL) = x at hx
      have hi : ∀ W, (Instr.index 9 (.string ⟨s.toArray⟩) (.int .i64 (j : Int))).run Tryd.prog W = .ok (.int .u8 (x.toNat : Int)) W := fun W => run_str_at (P := Tryd.prog) Tryd.underlying9 s j x hx (kl := .i64) W
      have hj' : (j : Int) < L := by omega
      have HX := Lib.hid hx
      clear hx hjL hlo
      rcases byte_kind x with hp | rfl | hp
      · have HPL := Lib.hid (fun W => rplain_any x W)
        rw [hp] at HPL
        have HN := Lib.hid (rpK_pl hH.out HX.out hp)
        have hsl : ∀ W, (Instr.sliceAt 9 (.string ⟨s.toArray⟩) (some (.int .i64 (j : Int))) (some (.int .i64 ((j : Int) + 1))) none).run Tryd.prog W = .ok (.string ⟨#[x]⟩) W := fun W => by
          have := run_str_lh (P := Tryd.prog) Tryd.underlying9 s j (j + 1) (by omega) (by rw [HL.out]; omega) (kl := .i64) (kh := .i64) (I := j) (J := (j : Int) + 1) rfl (by omega) W
          rw [this, drop_at HX.out, show j + 1 - j = 1 by omega]
          rfl
        have hs1 : (⟨#[x]⟩ : ByteArray).size = 1 := rfl
        clear hp hH
        go_wp2_with fail
        refine (HPL.out _).mono ?_
        rintro e w2 ⟨rfl, rfl⟩
        go_wp2_with fail
        go_roundw
        case rel => exact ⟨j + 1, o ++ [x], by omega, by omega, by go_num, by rw [← cat_mk], by have := HLO.out; simp; omega, HN, hb⟩
        case measure => simp [intOf]; omega
      · have hi37 : ∀ W, (Instr.index 9 (.string ⟨s.toArray⟩) (.int .i64 (j : Int))).run Tryd.prog W = .ok (.int .u8 37) W := hi
        have HPL : Hid (∀ W, Calls Tryd.prog 66 #[.int .u8 37] W fun e w' => e = .returned (.bool false) ∧ W = w') := fun W => by
          have := rplain_any 37 W
          rw [pl37] at this
          exact this
        clear hi
        have hw1 : IntKind.i64.wrap ((j : Int) + 1) = (j : Int) + 1 := IntWalk.i64_in _ (by omega)
        have hw2 : IntKind.i64.wrap ((j : Int) + 2) = (j : Int) + 2 := IntWalk.i64_in _ (by omega)
        by_cases hsh : (L : Int) ≤ (j : Int) + 2
        · have HE := Lib.hid (rpK_short hH.out HX.out (by rw [HL.out]; omega))
          have hsh' : decide ((L : Int) ≤ (j : Int) + 2) = true := decide_eq_true hsh
          clear hsh hH
          go_wp2_with fail
          refine (HPL.out _).mono ?_
          rintro e w2 ⟨rfl, rfl⟩
          go_upto_region 7 with fail
          clear HPL
          refine wp_region_plan (MPlan.reads [0, 1, 2, 3, 4, 5, 6, 7, 8, 9, 10, 11, 12, 13, 14, 15, 16, 17, 18, 19, 20, 21, 22, 23, 24, 25, 26, 27, 28, 29, 30, 31, 32, 33, 34] .fin) (fun _ => True) (by kernel_rfl) (by kernel_rfl) (by kernel_rfl) (fun _ _ _ _ _ h => h) trivial ?_
          iterate 6 (refine plan_read (o := ⟨_, _, _, _, _, _⟩) (by rfl) (by rfl) ?_; go_big_quiet_step (fail); refine wpQuiet_nil ?_)
          iterate 6 (refine plan_skip (o := ⟨_, _, _, _, _, _⟩) (by rfl) (by rfl) ?_; simp only [Act.put, List.setIfInBounds_toArray, List.set_cons_succ, List.set_cons_zero])
          iterate 2 (refine plan_read (o := ⟨_, _, _, _, _, _⟩) (by rfl) (by rfl) ?_; go_big_quiet_step (fail); refine wpQuiet_nil ?_)
          iterate 6 (refine plan_skip (o := ⟨_, _, _, _, _, _⟩) (by rfl) (by rfl) ?_; simp only [Act.put, List.setIfInBounds_toArray, List.set_cons_succ, List.set_cons_zero])
          iterate 2 (refine plan_read (o := ⟨_, _, _, _, _, _⟩) (by rfl) (by rfl) ?_; go_big_quiet_step (fail); refine wpQuiet_nil ?_)
          iterate 12 (refine plan_skip (o := ⟨_, _, _, _, _, _⟩) (by rfl) (by rfl) ?_; simp only [Act.put, List.setIfInBounds_toArray, List.set_cons_succ, List.set_cons_zero])
          iterate 1 (refine plan_read (o := ⟨_, _, _, _, _, _⟩) (by rfl) (by rfl) ?_; go_big_quiet_step (fail); refine wpQuiet_nil ?_)
          refine plan_fin ?_
          go_wp2_with fail
          go_ret3
          exact ⟨hb.drew, .inl ⟨HE.out, _, rfl⟩⟩
        · have hsh' : decide ((L : Int) ≤ (j : Int) + 2) = false := decide_eq_false hsh
          have hj2 : j + 2 < L := by omega
          have ha : s[j + 1]? = some (s[j + 1]'(by rw [HL.out]; omega)) := List.getElem?_eq_getElem _
          generalize s[j + 1]'(by rw [HL.out]; omega) = a at ha
          have hb2 : s[j + 2]? = some (s[j + 2]'(by rw [HL.out]; omega)) := List.getElem?_eq_getElem _
          generalize s[j + 2]'(by rw [HL.out]; omega) = b at hb2
          have hia : ∀ W, (Instr.index 9 (.string ⟨s.toArray⟩) (.int .i64 ((j : Int) + 1))).run Tryd.prog W = .ok (.int .u8 (a.toNat : Int)) W := fun W => run_str_at (P := Tryd.prog) Tryd.underlying9 s (j + 1) a ha (kl := .i64) W
          have hib : ∀ W, (Instr.index 9 (.string ⟨s.toArray⟩) (.int .i64 ((j : Int) + 2))).run Tryd.prog W = .ok (.int .u8 (b.toNat : Int)) W := fun W => run_str_at (P := Tryd.prog) Tryd.underlying9 s (j + 2) b hb2 (kl := .i64) W
          have HA := Lib.hid (fun W => rhalf_any (a.toNat : Int) (by omega) (by have := a.toNat_lt; omega) W)
          have HB := Lib.hid (fun W => rhalf_any (b.toNat : Int) (by omega) (by have := b.toNat_lt; omega) W)
          have hcs := resc_case a b
          have a1 := hx_le a
          have b1 := hx_le b
          have a2 := hx_ge a
          have b2 := hx_ge b
          unfold hx8 at hcs a1 b1 a2 b2
          obtain ⟨VA, hVA⟩ : ∃ v, hxI (a.toNat : Int) = v := ⟨_, rfl⟩
          obtain ⟨VB, hVB⟩ : ∃ v, hxI (b.toNat : Int) = v := ⟨_, rfl⟩
          rw [hVA] at HA hcs a1 a2
          rw [hVB] at HB hcs b1 b2
          have hbad : escV a b = none → rpartF (s.drop k) = none := fun h => rpK_bad hH.out HX.out ha hb2 h
          have HBAD := Lib.hid hbad
          have hgood : ∀ c, escV a b = some c → rpK s k (j + 3) (o ++ [c]) := fun c h => rpK_esc hH.out HX.out ha hb2 h
          have HGOOD := Lib.hid hgood
          have hwv : IntKind.i64.wrap (VA + VB) = VA + VB := IntWalk.i64_in _ (by omega)
          clear hsh ha hb2 hVA hVB hbad hgood hH
          rcases hcs with ⟨c1, he⟩ | ⟨c1, c2, he⟩ | ⟨c1, c2, c3, he⟩ | ⟨c1, c2, c3, N, hN, hsum, he⟩
          · have d1 : decide (VA < 0) = true := decide_eq_true c1
            have HE := Lib.hid (HBAD.out he)
            clear c1 he
            go_wp2_with fail
            refine (HPL.out _).mono ?_
            rintro e w2 ⟨rfl, rfl⟩
            go_upto_region 7 with fail
            clear HPL
            refine wp_region_plan (MPlan.reads [0, 1, 2, 3, 4, 5, 6, 7, 8, 9, 10, 11, 12, 13, 14, 15, 16, 17, 18, 19, 20, 21, 22, 23, 24, 25, 26, 27, 28, 29, 30, 31, 32, 33, 34] .fin) (fun _ => True) (by kernel_rfl) (by kernel_rfl) (by kernel_rfl) (fun _ _ _ _ _ h => h) trivial ?_
            iterate 10 (refine plan_read (o := ⟨_, _, _, _, _, _⟩) (by rfl) (by rfl) ?_; go_big_quiet_step (fail); refine wpQuiet_nil ?_)
            refine plan_quiet (o := ⟨_, _, _, _, _, _⟩) (by rfl) (by rfl) (.int .i64 VA) (fun W => by go_simp) (fun w' _ => HA.out w') ?_
            simp only [Act.put, List.setIfInBounds_toArray, List.set_cons_succ, List.set_cons_zero]
            iterate 3 (refine plan_read (o := ⟨_, _, _, _, _, _⟩) (by rfl) (by rfl) ?_; go_big_quiet_step (fail); refine wpQuiet_nil ?_)
            iterate 6 (refine plan_skip (o := ⟨_, _, _, _, _, _⟩) (by rfl) (by rfl) ?_; simp only [Act.put, List.setIfInBounds_toArray, List.set_cons_succ, List.set_cons_zero])
            iterate 2 (refine plan_read (o := ⟨_, _, _, _, _, _⟩) (by rfl) (by rfl) ?_; go_big_quiet_step (fail); refine wpQuiet_nil ?_)
            iterate 12 (refine plan_skip (o := ⟨_, _, _, _, _, _⟩) (by rfl) (by rfl) ?_; simp only [Act.put, List.setIfInBounds_toArray, List.set_cons_succ, List.set_cons_zero])
            iterate 1 (refine plan_read (o := ⟨_, _, _, _, _, _⟩) (by rfl) (by rfl) ?_; go_big_quiet_step (fail); refine wpQuiet_nil ?_)
            refine plan_fin ?_
            go_wp2_with fail
            go_ret3
            exact ⟨hb.drew, .inl ⟨HE.out, _, rfl⟩⟩
          · have d1 : decide (VA < 0) = false := decide_eq_false (by omega)
            have d2 : decide (VB < 0) = true := decide_eq_true c2
            have HE := Lib.hid (HBAD.out he)
            clear c1 c2 he
            go_wp2_with fail
            refine (HPL.out _).mono ?_
            rintro e w2 ⟨rfl, rfl⟩
            go_upto_region 7 with fail
            clear HPL
            refine wp_region_plan (MPlan.reads [0, 1, 2, 3, 4, 5, 6, 7, 8, 9, 10, 11, 12, 13, 14, 15, 16, 17, 18, 19, 20, 21, 22, 23, 24, 25, 26, 27, 28, 29, 30, 31, 32, 33, 34] .fin) (fun _ => True) (by kernel_rfl) (by kernel_rfl) (by kernel_rfl) (fun _ _ _ _ _ h => h) trivial ?_
            iterate 10 (refine plan_read (o := ⟨_, _, _, _, _, _⟩) (by rfl) (by rfl) ?_; go_big_quiet_step (fail); refine wpQuiet_nil ?_)
            refine plan_quiet (o := ⟨_, _, _, _, _, _⟩) (by rfl) (by rfl) (.int .i64 VA) (fun W => by go_simp) (fun w' _ => HA.out w') ?_
            simp only [Act.put, List.setIfInBounds_toArray, List.set_cons_succ, List.set_cons_zero]
            iterate 3 (refine plan_read (o := ⟨_, _, _, _, _, _⟩) (by rfl) (by rfl) ?_; go_big_quiet_step (fail); refine wpQuiet_nil ?_)
            iterate 4 (refine plan_read (o := ⟨_, _, _, _, _, _⟩) (by rfl) (by rfl) ?_; go_big_quiet_step (fail); refine wpQuiet_nil ?_)
            refine plan_quiet (o := ⟨_, _, _, _, _, _⟩) (by rfl) (by rfl) (.int .i64 VB) (fun W => by go_simp) (fun w' _ => HB.out w') ?_
            simp only [Act.put, List.setIfInBounds_toArray, List.set_cons_succ, List.set_cons_zero]
            iterate 3 (refine plan_read (o := ⟨_, _, _, _, _, _⟩) (by rfl) (by rfl) ?_; go_big_quiet_step (fail); refine wpQuiet_nil ?_)
            iterate 12 (refine plan_skip (o := ⟨_, _, _, _, _, _⟩) (by rfl) (by rfl) ?_; simp only [Act.put, List.setIfInBounds_toArray, List.set_cons_succ, List.set_cons_zero])
            iterate 1 (refine plan_read (o := ⟨_, _, _, _, _, _⟩) (by rfl) (by rfl) ?_; go_big_quiet_step (fail); refine wpQuiet_nil ?_)
            refine plan_fin ?_
            go_wp2_with fail
            go_ret3
            exact ⟨hb.drew, .inl ⟨HE.out, _, rfl⟩⟩
          · have d1 : decide (VA < 0) = false := decide_eq_false (by omega)
            have d2 : decide (VB < 0) = false := decide_eq_false (by omega)
            have d3 : (VA + VB == 0) = true := by simpa using c3
            have HE := Lib.hid (HBAD.out he)
            clear c1 c2 c3 he
            go_wp2_with fail
            refine (HPL.out _).mono ?_
            rintro e w2 ⟨rfl, rfl⟩
            go_upto_region 7 with fail
            clear HPL
            refine wp_region_plan (MPlan.reads [0, 1, 2, 3, 4, 5, 6, 7, 8, 9, 10, 11, 12, 13, 14, 15, 16, 17, 18, 19, 20, 21, 22, 23, 24, 25, 26, 27, 28, 29, 30, 31, 32, 33, 34] .fin) (fun _ => True) (by kernel_rfl) (by kernel_rfl) (by kernel_rfl) (fun _ _ _ _ _ h => h) trivial ?_
            iterate 10 (refine plan_read (o := ⟨_, _, _, _, _, _⟩) (by rfl) (by rfl) ?_; go_big_quiet_step (fail); refine wpQuiet_nil ?_)
            refine plan_quiet (o := ⟨_, _, _, _, _, _⟩) (by rfl) (by rfl) (.int .i64 VA) (fun W => by go_simp) (fun w' _ => HA.out w') ?_
            simp only [Act.put, List.setIfInBounds_toArray, List.set_cons_succ, List.set_cons_zero]
            iterate 3 (refine plan_read (o := ⟨_, _, _, _, _, _⟩) (by rfl) (by rfl) ?_; go_big_quiet_step (fail); refine wpQuiet_nil ?_)
            iterate 4 (refine plan_read (o := ⟨_, _, _, _, _, _⟩) (by rfl) (by rfl) ?_; go_big_quiet_step (fail); refine wpQuiet_nil ?_)
            refine plan_quiet (o := ⟨_, _, _, _, _, _⟩) (by rfl) (by rfl) (.int .i64 VB) (fun W => by go_simp) (fun w' _ => HB.out w') ?_
            simp only [Act.put, List.setIfInBounds_toArray, List.set_cons_succ, List.set_cons_zero]
            iterate 3 (refine plan_read (o := ⟨_, _, _, _, _, _⟩) (by rfl) (by rfl) ?_; go_big_quiet_step (fail); refine wpQuiet_nil ?_)
            iterate 4 (refine plan_read (o := ⟨_, _, _, _, _, _⟩) (by rfl) (by rfl) ?_; go_big_quiet_step (fail); refine wpQuiet_nil ?_)
            refine plan_quiet (o := ⟨_, _, _, _, _, _⟩) (by rfl) (by rfl) (.int .i64 VA) (fun W => by go_simp) (fun w' _ => HA.out w') ?_
            simp only [Act.put, List.setIfInBounds_toArray, List.set_cons_succ, List.set_cons_zero]
            iterate 4 (refine plan_read (o := ⟨_, _, _, _, _, _⟩) (by rfl) (by rfl) ?_; go_big_quiet_step (fail); refine wpQuiet_nil ?_)
            refine plan_quiet (o := ⟨_, _, _, _, _, _⟩) (by rfl) (by rfl) (.int .i64 VB) (fun W => by go_simp) (fun w' _ => HB.out w') ?_
            simp only [Act.put, List.setIfInBounds_toArray, List.set_cons_succ, List.set_cons_zero]
            iterate 3 (refine plan_read (o := ⟨_, _, _, _, _, _⟩) (by rfl) (by rfl) ?_; go_big_quiet_step (fail); refine wpQuiet_nil ?_)
            refine plan_fin ?_
            go_wp2_with fail
            go_ret3
            exact ⟨hb.drew, .inl ⟨HE.out, _, rfl⟩⟩
          · have d1 : decide (VA < 0) = false := decide_eq_false (by omega)
            have d2 : decide (VB < 0) = false := decide_eq_false (by omega)
            have d3 : (VA + VB == 0) = false := by simpa using c3
            have HN := Lib.hid (HGOOD.out _ he)
            have hm16 : IntKind.i64.wrap (16 * VA) = 16 * VA := IntWalk.i64_in _ (by omega)
            have hsm : IntKind.i64.wrap (16 * VA + VB) = 16 * VA + VB := IntWalk.i64_in _ (by omega)
            have hbN : b8 (UInt8.ofNat N) = .int .u8 (N : Int) := by
              rw [b8_ofNat, Nat.mod_eq_of_lt hN]
            have HBN := Lib.hid hbN
            have HSUM := Lib.hid hsum
            clear c1 c2 c3 he hbN hsum
            go_wp2_with fail
            refine (HPL.out _).mono ?_
            rintro e w2 ⟨rfl, rfl⟩
            go_upto_region 7 with fail
            clear HPL
            refine wp_region_plan (MPlan.reads [0, 1, 2, 3, 4, 5, 6, 7, 8, 9, 10, 11, 12, 13, 14, 15, 16, 17, 18, 19, 20, 21, 22, 23, 24, 25, 26, 27, 28, 29, 30, 31, 32, 33, 34] .fin) (fun _ => True) (by kernel_rfl) (by kernel_rfl) (by kernel_rfl) (fun _ _ _ _ _ h => h) trivial ?_
            iterate 10 (refine plan_read (o := ⟨_, _, _, _, _, _⟩) (by rfl) (by rfl) ?_; go_big_quiet_step (fail); refine wpQuiet_nil ?_)
            refine plan_quiet (o := ⟨_, _, _, _, _, _⟩) (by rfl) (by rfl) (.int .i64 VA) (fun W => by go_simp) (fun w' _ => HA.out w') ?_
            simp only [Act.put, List.setIfInBounds_toArray, List.set_cons_succ, List.set_cons_zero]
            iterate 3 (refine plan_read (o := ⟨_, _, _, _, _, _⟩) (by rfl) (by rfl) ?_; go_big_quiet_step (fail); refine wpQuiet_nil ?_)
            iterate 4 (refine plan_read (o := ⟨_, _, _, _, _, _⟩) (by rfl) (by rfl) ?_; go_big_quiet_step (fail); refine wpQuiet_nil ?_)
            refine plan_quiet (o := ⟨_, _, _, _, _, _⟩) (by rfl) (by rfl) (.int .i64 VB) (fun W => by go_simp) (fun w' _ => HB.out w') ?_
            simp only [Act.put, List.setIfInBounds_toArray, List.set_cons_succ, List.set_cons_zero]
            iterate 3 (refine plan_read (o := ⟨_, _, _, _, _, _⟩) (by rfl) (by rfl) ?_; go_big_quiet_step (fail); refine wpQuiet_nil ?_)
            iterate 4 (refine plan_read (o := ⟨_, _, _, _, _, _⟩) (by rfl) (by rfl) ?_; go_big_quiet_step (fail); refine wpQuiet_nil ?_)
            refine plan_quiet (o := ⟨_, _, _, _, _, _⟩) (by rfl) (by rfl) (.int .i64 VA) (fun W => by go_simp) (fun w' _ => HA.out w') ?_
            simp only [Act.put, List.setIfInBounds_toArray, List.set_cons_succ, List.set_cons_zero]
            iterate 4 (refine plan_read (o := ⟨_, _, _, _, _, _⟩) (by rfl) (by rfl) ?_; go_big_quiet_step (fail); refine wpQuiet_nil ?_)
            refine plan_quiet (o := ⟨_, _, _, _, _, _⟩) (by rfl) (by rfl) (.int .i64 VB) (fun W => by go_simp) (fun w' _ => HB.out w') ?_
            simp only [Act.put, List.setIfInBounds_toArray, List.set_cons_succ, List.set_cons_zero]
            iterate 3 (refine plan_read (o := ⟨_, _, _, _, _, _⟩) (by rfl) (by rfl) ?_; go_big_quiet_step (fail); refine wpQuiet_nil ?_)
            refine plan_fin ?_
            go_upto_region 9 with fail
            have hcv : IntKind.u8.wrap (16 * VA + VB) = (N : Int) := by rw [HSUM.out]; unfold IntKind.wrap; simp [IntKind.bits, IntKind.signed]; omega
            refine wp_region_plan (MPlan.reads [0, 1, 2, 3, 4, 5, 6, 7, 8, 9, 10, 11, 12, 13] (.one 14 (.one 15 (MPlan.reads [16, 17] .fin)))) (fun _ => True) (by kernel_rfl) (by kernel_rfl) (by kernel_rfl) (fun _ _ _ _ _ h => h) trivial ?_
            iterate 5 (refine plan_read (o := ⟨_, _, _, _, _, _⟩) (by rfl) (by rfl) ?_; go_big_quiet_step (fail); refine wpQuiet_nil ?_)
            refine plan_quiet (o := ⟨_, _, _, _, _, _⟩) (by rfl) (by rfl) (.int .i64 VA) (fun W => by go_simp) (fun w' _ => HA.out w') ?_
            simp only [Act.put, List.setIfInBounds_toArray, List.set_cons_succ, List.set_cons_zero]
            iterate 5 (refine plan_read (o := ⟨_, _, _, _, _, _⟩) (by rfl) (by rfl) ?_; go_big_quiet_step (fail); refine wpQuiet_nil ?_)
            refine plan_quiet (o := ⟨_, _, _, _, _, _⟩) (by rfl) (by rfl) (.int .i64 VB) (fun W => by go_simp) (fun w' _ => HB.out w') ?_
            simp only [Act.put, List.setIfInBounds_toArray, List.set_cons_succ, List.set_cons_zero]
            iterate 2 (refine plan_read (o := ⟨_, _, _, _, _, _⟩) (by rfl) (by rfl) ?_; go_big_quiet_step (fail); refine wpQuiet_nil ?_)
            refine plan_one (o := ⟨_, _, _, _, _, _⟩) (by rfl) (fun K hK => ?_)
            refine wpList_lit1 (v := .int .u8 (N : Int)) rfl rfl eb rfl (fill_u8 _) ?_
            intro w3 hw3
            have hl3 := lit1_rd hw3
            have hb3 := lit1_below hw3 hb.drew.drew hb.size
            have hst : (convert 23 9 (.slice (some ⟨wr.heap.size, 0, none⟩) 1 1)).run Tryd.prog w3 = .ok (.string ⟨#[UInt8.ofNat N]⟩) w3 := str_rd (l := [UInt8.ofNat N]) (by rw [List.map_singleton, HBN.out]; exact hl3)
            have hs1 : (⟨#[UInt8.ofNat N]⟩ : ByteArray).size = 1 := rfl
            clear hw3
            go_wp2_with fail
            refine hK _ _ trivial ?_
            clear hK
            refine plan_one (o := ⟨_, _, _, _, _, _⟩) (by rfl) (fun K hK => ?_)
            go_wp2_with fail
            refine hK _ _ trivial ?_
            clear hK
            iterate 2 (refine plan_read (o := ⟨_, _, _, _, _, _⟩) (by rfl) (by rfl) ?_; go_big_quiet_step (fail); refine wpQuiet_nil ?_)
            refine plan_fin ?_
            go_wp2_with fail
            go_roundw
            case rel => exact ⟨j + 3, o ++ [UInt8.ofNat N], by omega, by omega, by go_num, by rw [← cat_mk], by have := HLO.out; simp; omega, HN, hb3⟩
            case measure => simp [intOf]; omega
      · have HPL := Lib.hid (fun W => rplain_any x W)
        rw [hp.1] at HPL
        have hne := ne_int (x := x) (c := 37) (by omega) hp.2
        have hne' : ((x.toNat : Int) != 37) = true := by
          have : ((x.toNat : Int) == 37) = false := hne
          simp [bne, this]
        have HE := Lib.hid (rpK_stop hH.out HX.out hp)
        clear hp hH hne
        go_wp2_with fail
        refine (HPL.out _).mono ?_
        rintro e w2 ⟨rfl, rfl⟩
        go_wp2_with fail
        go_ret3
        exact ⟨hb, .inr ⟨o, _, j, HE.out, by rw [HL.out]; omega, rfl, rfl⟩⟩
    · obtain rfl : j = L := by omega
      have HE := Lib.hid (rpK_end (k := k) (o := o) (by rw [HL.out]; exact hH.out))
      clear hjL hH
      go_wp2_with fail
      go_ret3
      exact ⟨hb, .inr ⟨o, _, j, HE.out, by rw [HL.out]; omega, by rw [← HL.out, List.drop_length], rfl⟩⟩

end Go.Proofs.YtaopohacelmglaaDoor.Tg
