/-
  Joined texts of this claim's author (each began as a text of its own; each says itself what it holds).
-/
import Derived.Test.YtaopohacelmglaaDoorG08
import Derived.Test.YtaopohacelmglaaDoorG09
import Derived.Test.YtaopohacelmglaaDoorG05
import Derived.Test.YtaopohacelmglaaDoorG11
set_option linter.unusedVariables false
set_option linter.unusedSimpArgs false

/-
  The document's To makes of a request what is said.
-/
namespace Go.Proofs.YtaopohacelmglaaDoor
open Go.RowKit

theorem rrdsL_len : ∀ l : List RRoad, (rrdsL l).length = l.length * 5
  | [] => rfl
  | r :: l => by
    have := rrdsL_len l
    have e : rrdsL (r :: l) = (rroadA r).toList ++ rrdsL l := rfl
    rw [e, List.length_append, this]
    simp [rroadA]
    omega
theorem rrdsL_at : ∀ (l : List RRoad) (k : Nat) (r : RRoad), l[k]? = some r → ∀ j, j < 5 → (rrdsL l)[k * 5 + j]? = (rroadA r).toList[j]?
  | [], k, r, h, j, hj => by simp at h
  | q :: l, 0, r, h, j, hj => by
    obtain rfl : q = r := by simpa using h
    have e : rrdsL (q :: l) = (rroadA q).toList ++ rrdsL l := rfl
    rw [e, Nat.zero_mul, Nat.zero_add, List.getElem?_append_left (by simp [rroadA]; omega)]
  | q :: l, k + 1, r, h, j, hj => by
    have ih := rrdsL_at l k r (by simpa using h) j hj
    have e : rrdsL (q :: l) = (rroadA q).toList ++ rrdsL l := rfl
    have hl : (rroadA q).toList.length = 5 := rfl
    rw [e, List.getElem?_append_right (by omega), hl, show (k + 1) * 5 + j - 5 = k * 5 + j by omega]
    exact ih
theorem size_rroad (r : RRoad) : (Tryd.prog.info? 67).map (·.size) = some 5 := by kernel_rfl
section
variable {w : World} {A : Option Addr} {n c : Nat} {l : List RRoad} {k : Nat} {r : RRoad}
theorem rrds_cell (h : Rd w 5 A n c (rrdsL l)) (hx : l[k]? = some r) (j : Nat) (v : Value) (hv : (rroadA r).toList[j]? = some v) : w.cell? ((at_ A (k * 5)).add j) = some v := by
  rw [Tg.at_add2]
  have hj : j < 5 := (List.getElem?_eq_some_iff.1 hv).1
  exact Rd.cell h (k * 5 + j) v ((rrdsL_at l k r hx j hj).trans hv)
theorem rrds_load (h : Rd w 5 A n c (rrdsL l)) (hx : l[k]? = some r) : (loadVar 67 (at_ A (k * 5))).run Tryd.prog w = .ok (.agg (rroadA r)) w := by
  have hl := run_loadCells_list (P := Tryd.prog) w (at_ A (k * 5)) (rroadA r).toList (fun j v hv => rrds_cell h hx j v hv)
  have e : (rroadA r).toList.length = 5 := rfl
  have e2 : ((rroadA r).toList).toArray = rroadA r := rfl
  rw [e, e2] at hl
  have hi : (Tryd.prog.info? 67).map (·.size) = some 5 := size_rroad r
  simp [loadVar, isAgg, run_underlying Tryd.underlying67, sizeOf_run hi, hl]
theorem rrds_idx (h : Rd w 5 A n c (rrdsL l)) (hk : k < n) (W : World) : (Instr.indexAt 63 (.slice A n c) (.int .i64 (k : Int))).run Tryd.prog W = .ok (.pointer (some (at_ A (k * 5)))) W :=
  run_index_rd err (Rd.nil h) (Rd.le h) k hk W
end
theorem rrds_new {w : World} : Rd (w.alloc (.cells (rrdsL rroadsT).toArray 67)) 5 (some ⟨w.heap.size, 0, none⟩) 17 17 (rrdsL rroadsT) :=
  (Own.new (base := 0) (e := 67) (size := 5) w (rrdsL rroadsT).toArray (0, 0) 17 17 (rrdsL rroadsT) (Nat.zero_le _) (Nat.le_refl _) (by decide) (by rw [rrdsL_len]; rfl) (by rw [List.size_toArray, rrdsL_len]; decide) (fun j u h => by rw [List.getElem?_toArray]; exact h) (fun j _ h => by omega)).rd
theorem rroads_rd (w : World) : Calls Tryd.prog 26 #[] w fun e w' => ∃ A : Option Addr, e = .returned (.slice A 17 17) ∧ Rd w' 5 A 17 17 (rrdsL rroadsT) ∧ Below w.heap.size w w' :=
  (rroads_any w).mono (by
    rintro e w' ⟨rfl, rfl⟩
    exact ⟨_, rfl, rrds_new, (Below.refl _ _).alloc (Nat.le_refl _) _⟩)
theorem must_le (x : Road) : (rroad x).must.length ≤ 1000 := by
  show (mustS x).length ≤ 1000
  unfold mustS
  split
  · decide
  · split <;> decide
theorem may_le (x : Road) : (rroad x).may.length ≤ 1000 := by
  show (mayS x).length ≤ 1000
  unfold mayS
  split <;> decide
theorem d_eq1 (n : Nat) : ((n : Int) == 1) = (n == 1) := by
  rw [Bool.eq_iff_iff]
  simp
  omega
theorem d_eq3 (n : Nat) : ((n : Int) == 3) = (n == 3) := by
  rw [Bool.eq_iff_iff]
  simp
  omega

set_option maxRecDepth 20000 in
set_option maxHeartbeats 8000000 in
theorem RTo_any {w : World} (r : Req) (h : RqIn w r) :
    Calls Tryd.prog 11 #[.agg (rqA r)] w (Said (toR r.m r.t) (tokF r.fs) r.bd w) := by
  have HI := Lib.hid (fun W (hb : Below w.heap.size w W) => h.below hb)
  have ht := h.t
  have HP := Lib.hid (fun W => Tg.RParse_any r.t (by omega) W)
  unfold Tg.Parsed at HP
  obtain ⟨P, Q, E, hpf⟩ : ∃ P Q E, Tg.parseF r.t = (P, Q, E) := ⟨_, _, _, rfl⟩
  have hto : toR r.m r.t = if E = 0 then findR r.m P Q roadsT 404 else (none, 400) := by
    unfold toR
    rw [hpf]
  have hpl : E = 0 → P.length ≤ 4097 ∧ Q.length ≤ 4097 ∧ (∀ p ∈ P, p.length ≤ 4096) ∧ (∀ q ∈ Q, q.2.length ≤ 4096) ∧ Apart Q := fun he => by
    subst he
    obtain ⟨h0, h1, h2, h3, h4⟩ := parse_len hpf
    exact ⟨by omega, by omega, fun p hp => by have := h3 p hp; omega, fun q hq => by have := (h4 q hq).2; omega, apart_of h0⟩
  rw [hpf] at HP
  dsimp only at HP
  have HTO := Lib.hid hto
  have HPL := Lib.hid hpl
  clear hpf hto hpl h ht
  go_enter Tryd.func11, Tryd.ntmps11
  go_upto_region 1 with (first
    | (refine wpList_box rfl _ _ rfl (rqA r) rfl ?_; intro w1 hg1 hb1 hz1; clear hz1)
    | (refine wpList_alloc_zero rfl _ rfl (opA opvZ) zero_op ?_; intro w2 hg2 hb2 hz2; clear hz2))
  have hg1' := obj_on hg1 hb2
  have hq1 := (cell_rq hg1').2.1
  have hbb : Below w.heap.size w w2 := hb1.trans (hb2.mono hb1.size)
  have hlo := hb1.size
  clear hb2
  go_wp2_with fail
  refine (HP.out _).mono ?_
  rintro e w3 ⟨hb3, A, n, c, B, m, d, rfl, hoA, hoB⟩
  have hg1q := obj_on hg1' hb3
  have hg2q := obj_on hg2 hb3
  have hb3' := hbb.trans (hb3.mono hbb.size)
  have hs2 := hbb.size
  clear hg1 hg1' hg2 hb3 hb1
  go_upto_region 2 with (first
    | (refine wpList_alloc_zero rfl _ rfl Tg.tgZ Tg.zero_tg ?_; intro w4 hg4 hb4 hz4; clear hz4)
    | (refine wpList_store_all rfl _ _ _ rfl w3.heap.size rfl _ _ _ rfl hg4 Tg.size_tg rfl Tg.tg_one ?_; intro w5 hg5 hgr5 hz5; clear hz5; have hb5 : Below w3.heap.size w3 w5 := hb4.grown hgr5 hb4.size (fun g hg => (by obtain rfl := Option.some.inj hg; exact Nat.le_refl _)); clear hg4 hb4 hgr5))
  have hT : ToS w r w.heap.size w1.heap.size w3.heap.size A n c B m d P Q w5 := ⟨hb3'.trans (hb5.mono hb3'.size), hlo, obj_on hg1q hb5, obj_on hg2q hb5, hg5, (hoA.below hb5).mono hs2, (hoB.below hb5).mono hs2⟩
  clear hb5 hg5 hg1q hg2q hoA hoB hb3' hs2 hlo hbb hq1
  by_cases hE : E = 0
  · subst hE
    have hto := HTO.out
    rw [if_pos rfl] at hto
    obtain ⟨hPl, hQl, hPs, hQs, hap⟩ := HPL.out rfl
    have HPS := Lib.hid hPs
    have HQS := Lib.hid hQs
    have HAP := Lib.hid hap
    have HF : Hid (toR r.m r.t = findR r.m P Q (roadsT.drop 0) 404) := hto
    clear hto HTO HPL HP hPs hQs hap
    go_wp2_with fail
    refine (rroads_rd _).mono ?_
    rintro e w6 ⟨C, rfl, hrd, hbl6⟩
    have hT6 := hT.go hbl6
    clear hT hbl6
    go_wp2_with fail
    go_loopw [7, 8] (fun s i wr => ∃ (k st : Nat), k ≤ 17 ∧ st ≤ 405 ∧ s = .int .i64 st ∧ i = .int .i64 k ∧ ToS w r w.heap.size w1.heap.size w3.heap.size A n c B m d P Q wr ∧ Rd wr 5 C 17 17 (rrdsL rroadsT) ∧ Hid (toR r.m r.t = findR r.m P Q (roadsT.drop k) st)) (fun _ i _ => 17 - (intOf i).toNat)
    case atStart => exact ⟨0, 404, by omega, by omega, rfl, rfl, hT6, hrd, HF⟩
    case round =>
      obtain ⟨k, st, hk, hst, rfl, rfl, hT, hR, hF⟩ := hrel
      clear hT6 hrd HF
      by_cases hk17 : k < 17
      · obtain ⟨x, hx⟩ : ∃ x, roadsT[k]? = some x := ⟨_, List.getElem?_eq_getElem (by rw [roads_len]; exact hk17)⟩
        have hx2 : rroadsT[k]? = some (rroad x) := by rw [rroads_eq, List.getElem?_map, hx]; rfl
        have HX2 := Lib.hid hx2
        have HOK := Lib.hid (roads_ok x (List.mem_of_getElem? hx))
        have hidx := fun W => rrds_idx hR hk17 W
        have hdP : wr.cell? ⟨(at_ C (k * 5)).block, (at_ C (k * 5)).off + 1, none⟩ = some (.string ⟨x.p.toArray⟩) := rrds_cell hR hx2 1 _ rfl
        have hk' : (k : Int) < 17 := by omega
        have HCU : Hid (∀ W, Calls Tryd.prog 27 #[.string ⟨x.p.toArray⟩, .int .u8 47] W fun e w' => ∃ A n cc, e = .returned (.slice A n cc) ∧ Own w' W.heap.size 9 1 A n cc (x.parts.map Tg.strV) ∧ Below W.heap.size W w') := fun W => by
          have h1 := rcut_any 47 x.p HOK.out.p W
          rw [show cutF 47 x.p = x.parts from if_neg HOK.out.ne] at h1
          exact h1
        clear hx2
        go_wp2_with fail
        refine (HCU.out _).mono ?_
        rintro e w5 ⟨A5, n5, c5, rfl, ho5, hbl5⟩
        have hT5 := hT.go hbl5
        have hR5 := Lib.hid (hR.below hbl5)
        have hs5 := hbl5.size
        have hct := (Tg.cell_tg hT5.tg).1
        have HFI := Lib.hid (rfits_any ho5.rd hT5.oA.rd)
        have hPn : P.length = n := by have := hT5.oA.rd.len; simpa using this
        have hXn : x.parts.length = n5 := by have := ho5.rd.len; simpa using this
        have hfi := (fits_iff x.parts P)
        obtain ⟨f, hf⟩ : ∃ f, fitsF x.parts P = f := ⟨_, rfl⟩
        rw [hf] at HFI
        clear hbl5 hT hdP HCU hR
        go_wp2_with fail
        refine HFI.out.mono ?_
        rintro e w6 ⟨rfl, hbl6⟩
        have hT6 := hT5.go hbl6
        have hR6 := hR5.out.below hbl6
        have ho6 := ho5.below hbl6
        have hs6 := hbl6.size
        clear hbl6 hT5 hR5 hct HFI ho5
        cases f
        · have HG : Hid (toR r.m r.t = findR r.m P Q (roadsT.drop (k + 1)) st) := hF.out.trans (find_skip hx hf)
          clear hf hfi hx hF HX2 hXn
          go_wp2_with fail
          go_roundw
          case rel => exact ⟨k + 1, st, by omega, by omega, rfl, by go_num, hT6, hR6, HG⟩
          case measure => simp [intOf]; omega
        · have hln : x.parts.length = P.length := by rw [hf] at hfi; exact (hfi.1 rfl).1
          obtain rfl : n5 = n := by omega
          have qm := fun b : Later w6 => (cell_rq (obj_on hT6.rq b.below)).1
          have xm : ∀ b : Later w6, b.at'.cell? (at_ C (k * 5)) = some (.string ⟨x.m.toArray⟩) := fun b => by
            have h1 := Rd.cell (hR6.below b.below) (k * 5 + 0) _ ((rrdsL_at _ k _ HX2.out 0 (by omega)).trans rfl)
            exact h1
          have hT7 := hT6.go drewL
          have hR7 := hR6.below drewL
          have ho7 := ho6.below drewL
          by_cases hmm : x.m = r.m
          · have HMM := Lib.hid hmm
            have hmf : (x.m == r.m) = true := by simpa using hmm
            have HFX := Lib.hid (fun o => find_some (Q := Q) (s := st) (o := o) hx hf hmm)
            have HFN := Lib.hid (find_none (Q := Q) (s := st) hx hf hmm)
            clear hfi hmm hln hx hf hXn
            go_upto_region 12 with fail
            refine wp_region_plan (MPlan.reads [0, 1, 2, 3, 4, 5, 6, 7] .fin) (fun x => ∃ b : Later w6, x = b.at') (by kernel_rfl) (by kernel_rfl) (by kernel_rfl) (fun _ _ _ _ _ h => h) ⟨⟨w6.drew, drewL⟩, rfl⟩ ?_
            iterate 8 (refine plan_read (o := ⟨_, _, _, _, _, _⟩) (by rfl) (by rfl) ?_; go_big_quiet_step (fail); refine wpQuiet_nil ?_)
            refine plan_fin ?_
            clear qm xm hmf hT6 hR6 ho6
            have hQn : Q.length = m := Tg.Ps.len (show Tg.Ps w6.drew B m d Q from hT7.oB.rd)
            have hg2lt := obj_lt hT7.res
            have hA7 := fun q hq => (hT7.oA.lt q hq).2
            have hB7 := fun q hq => (hT7.oB.lt q hq).2
            have hC7 := fun q hq => (ho7.lt q hq).2
            generalize w6.drew = w7 at hT7 hR7 ho7 hg2lt hA7 hB7 hC7 ⊢
            have hdD : ∀ b : Later w7, b.at'.cell? ⟨(at_ C (k * 5)).block, (at_ C (k * 5)).off + 4, none⟩ = some (.int .i64 (x.d : Int)) := fun b => rrds_cell (hR7.below b.below) HX2.out 4 _ rfl
            have hld := fun b : Later w7 => rrds_load (hR7.below b.below) HX2.out
            go_upto_region 13 with fail
            go_cut [10] from 46 to 54 (fun v wx => ∃ (g9 : Nat) (A7 : Option Addr) (n7 c7 : Nat), v = .pointer (some ⟨g9, 0, none⟩) ∧ w7.heap.size ≤ g9 ∧ OpB wx g9 ⟨(x.d : Int), opZ, none, 0, 0, A7, n7, c7⟩ ∧ Own wx w7.heap.size 5 1 A7 n7 c7 ((tokF r.fs).map b8) ∧ (∀ q, blk A7 = some q → q ≠ g9) ∧ Below w7.heap.size w7 wx)
            case first =>
              have pf := fun b : Later w7 => (cell_rq (obj_on hT7.rq b.below)).2.2.1
              have HTK := Lib.hid (fun W (hb : Below w7.heap.size w7 W) => RToken_any ((HI.out _ (hT7.base.trans (hb.mono hT7.base.size))).fs) (HI.out _ hT7.base).n (HI.out _ hT7.base).v)
              refine wp_region_plan (MPlan.reads [0, 1, 2, 3, 4, 5, 6] (.two 7 9 (.read 8 (.one 9 (.one 10 .fin))) (.one 7 (.read 8 (.one 10 .fin))))) (fun x => ∃ b : Later w7, x = b.at') (by kernel_rfl) (by kernel_rfl) (by kernel_rfl) (fun _ _ _ _ _ h => h) ⟨⟨w7.drew, drewL⟩, rfl⟩ ?_
              iterate 7 (refine plan_read (o := ⟨_, _, _, _, _, _⟩) (by rfl) (by rfl) ?_; go_big_quiet_step (fail); refine wpQuiet_nil ?_)
              clear hld hdD pf hidx
              refine plan_two (oi := ⟨_, _, _, _, _, _⟩) (oj := ⟨_, _, _, _, _, _⟩) (by rfl) (by rfl) (fun K hK => ?_) (fun K hK => ?_)
              · go_wp2_with fail
                refine (HTK.out _ drewL).mono ?_
                rintro e w8 ⟨A7, n7, c7, rfl, ho8, hbl8⟩
                have hb8 : Below w7.heap.size w7 w8 := drewL.trans hbl8
                clear hbl8
                go_wp2_with fail
                refine hK _ _ ⟨⟨w8, hb8⟩, rfl⟩ ?_
                clear hK
                refine plan_build2 (o := ⟨_, _, _, _, _, _⟩) (by rfl) rfl (by rfl) (.int .i64 (x.d : Int)) (.slice A7 n7 c7) rfl rfl _ (fun W => build_op W) ?_
                refine plan_one (o := ⟨_, _, _, _, _, _⟩) (by rfl) (fun K hK => ?_)
                go_wp2_with (refine wpList_alloc_zero rfl _ rfl (opA opvZ) zero_op ?_; intro w9 hg9 hb9 hz9; clear hz9)
                have hb9' := hb8.trans (hb9.mono hb8.size)
                refine hK _ _ ⟨⟨_, hb9'⟩, rfl⟩ ?_
                clear hK
                refine plan_one (o := ⟨_, _, _, _, _, _⟩) (by rfl) (fun K hK => ?_)
                go_wp2_with (refine wpList_store_all rfl _ _ _ rfl w8.heap.size rfl _ _ (opA ⟨(x.d : Int), opZ, none, 0, 0, A7, n7, c7⟩) rfl hg9 (size_op rfl) ((opA_size rfl).trans (opA_size rfl).symm) opA_one ?_; intro w10 hg10 hgr10 hz10; clear hz10)
                have hb10 : Below w7.heap.size w7 _ := hb9'.grown hgr10 hb9'.size (fun q hq => by obtain rfl := Option.some.inj hq; exact hb8.size)
                refine hK _ _ ⟨⟨_, hb10⟩, rfl⟩ ?_
                clear hK
                refine plan_fin ?_
                go_wp2_with fail
                go_meet
                exact ⟨_, A7, n7, c7, rfl, hb8.size, ⟨rfl, hg10⟩, (ho8.below hb9).grown hgr10 (fun q hq e => by obtain rfl := Option.some.inj e; have := (ho8.lt _ hq).2; omega), fun q hq e => (by subst e; have := (ho8.lt _ hq).2; omega), hb10⟩
              · go_wp2_with (refine wpList_alloc_zero rfl _ rfl (opA opvZ) zero_op ?_; intro w8 hg8 hb8 hz8; clear hz8)
                have hb8' : Below w7.heap.size w7 w8 := drewL.trans hb8
                refine hK _ _ ⟨⟨_, hb8'⟩, rfl⟩ ?_
                clear hK
                refine plan_one (o := ⟨_, _, _, _, _, _⟩) (by rfl) (fun K hK => ?_)
                go_wp2_with fail
                refine (HTK.out _ hb8').mono ?_
                rintro e w9 ⟨A7, n7, c7, rfl, ho9, hbl9⟩
                have hb9 := hb8'.trans (hbl9.mono hb8'.size)
                have hg9 := obj_on hg8 hbl9
                have hlt8 : w7.heap.size < w8.heap.size := obj_lt hg8
                clear hbl9
                go_wp2_with fail
                refine hK _ _ ⟨⟨_, hb9⟩, rfl⟩ ?_
                clear hK
                refine plan_build2 (o := ⟨_, _, _, _, _, _⟩) (by rfl) rfl (by rfl) (.int .i64 (x.d : Int)) (.slice A7 n7 c7) rfl rfl _ (fun W => build_op W) ?_
                refine plan_one (o := ⟨_, _, _, _, _, _⟩) (by rfl) (fun K hK => ?_)
                go_wp2_with (refine wpList_store_all rfl _ _ _ rfl w7.drew.heap.size rfl _ _ (opA ⟨(x.d : Int), opZ, none, 0, 0, A7, n7, c7⟩) rfl hg9 (size_op rfl) ((opA_size rfl).trans (opA_size rfl).symm) opA_one ?_; intro w10 hg10 hgr10 hz10; clear hz10)
                have hb10 : Below w7.heap.size w7 _ := hb9.grown hgr10 hb9.size (fun q hq => by obtain rfl := Option.some.inj hq; exact Nat.le_refl _)
                refine hK _ _ ⟨⟨_, hb10⟩, rfl⟩ ?_
                clear hK
                refine plan_fin ?_
                go_wp2_with fail
                go_meet
                exact ⟨_, A7, n7, c7, rfl, Nat.le_refl _, ⟨rfl, hg10⟩, (ho9.mono hb8'.size).grown hgr10 (fun q hq e => by have h1 := (ho9.lt _ hq).1; have e' : w7.heap.size = q := Option.some.inj e; omega), fun q hq e => (by have h1 := (ho9.lt _ hq).1; have e' : q = w7.heap.size := e; omega), hb10⟩
            case rest =>
              obtain ⟨g9, A7, n7, c7, rfl, hg9, hO9, ho9, hne9, hb9⟩ := hcut
              clear hdD
              have hb9d : Below w7.heap.size w7 wc.drew := hb9.drew
              have hT9 := hT7.go hb9d
              have ho59 := ho7.below hb9d
              have ptg := fun b : Later w7 => (Tg.cell_tg (obj_on hT7.tg b.below)).1
              have pmt := fun b : Later w7 => (Tg.cell_tg (obj_on hT7.tg b.below)).2
              have hNM := rnames_any ho59.rd (hO9.below drewL) hT9.oA.rd HPS.out (fun q hq e => by have h1 := hA7 q hq; have e' : q = g9 := e; omega) (fun q hq e => by have h1 := hC7 q hq; have e' : q = g9 := e; omega)
              dsimp only at hNM
              obtain ⟨F, hF1⟩ : ∃ F, fillF x.parts P opZ = F := ⟨_, rfl⟩
              rw [hF1] at hNM
              have HNM := Lib.hid hNM
              have HF1 := Lib.hid hF1
              clear hNM hF1 hPn
              unfold Filled at HNM
              go_upto_region 14 with fail
              refine wp_region_plan (MPlan.reads [0, 1, 2] (.one 3 (MPlan.reads [4, 5, 6, 7, 8, 9, 10, 11] (.one 12 (MPlan.reads [13, 14] .fin))))) (fun x => ∃ b : Later w7, x = b.at') (by kernel_rfl) (by kernel_rfl) (by kernel_rfl) (fun _ _ _ _ _ h => h) ⟨⟨wc.drew, hb9d⟩, rfl⟩ ?_
              iterate 3 (refine plan_read (o := ⟨_, _, _, _, _, _⟩) (by rfl) (by rfl) ?_; go_big_quiet_step (fail); refine wpQuiet_nil ?_)
              refine plan_one (o := ⟨_, _, _, _, _, _⟩) (by rfl) (fun K hK => ?_)
              go_wp2_with fail
              refine HNM.out.mono ?_
              rintro e w10 ⟨hgr10, hres⟩
              have hb10 : Below w7.heap.size w7 w10 := hb9d.grown hgr10 hb9d.size (fun q hq => by obtain rfl := Option.some.inj hq; exact hg9)
              have ho10 := (ho9.below drewL).grown hgr10 (fun q hq e => hne9 q hq (Option.some.inj e).symm)
              clear hgr10 HNM hT9 ho9 hO9 hb9 hb9d ho59
              rcases hres with ⟨hno, rfl⟩ | ⟨o, hyes, rfl, hO10⟩
              · have hsay : sayR x P Q = none := by
                  unfold sayR
                  rw [HF1.out, hno]
                  rfl
                have HE : Hid (toR r.m r.t = (none, 400)) := hF.out.trans (HFN.out hsay)
                have hT10 := hT7.go hb10
                clear hsay hno
                go_wp2_with fail
                refine hK _ _ ⟨⟨w10, hb10⟩, rfl⟩ ?_
                clear hK
                iterate 2 (refine plan_read (o := ⟨_, _, _, _, _, _⟩) (by rfl) (by rfl) ?_; go_big_quiet_step (fail); refine wpQuiet_nil ?_)
                iterate 6 (refine plan_skip (o := ⟨_, _, _, _, _, _⟩) (by rfl) (by rfl) ?_; simp only [Act.put, List.setIfInBounds_toArray, List.set_cons_succ, List.set_cons_zero])
                refine plan_one (o := ⟨_, _, _, _, _, _⟩) (by rfl) (fun K hK => ?_)
                go_wp2_with fail
                refine hK _ _ ⟨⟨w10, hb10⟩, rfl⟩ ?_
                clear hK
                refine plan_skip (o := ⟨_, _, _, _, _, _⟩) (by rfl) (by rfl) ?_
                simp only [Act.put, List.setIfInBounds_toArray, List.set_cons_succ, List.set_cons_zero]
                refine plan_read (o := ⟨_, _, _, _, _, _⟩) (by rfl) (by rfl) ?_
                go_big_quiet_step (fail)
                refine wpQuiet_nil ?_
                refine plan_fin ?_
                clear hld ptg pmt hidx
                go_wp2_with (first
                  | (refine wpList_build_run rfl _ _ rfl #[] (by rfl) _ (build_op0 _) ?_)
                  | (refine wpList_store_all rfl _ _ _ rfl w1.heap.size rfl _ (opA opvZ) (opA opvZ) rfl hT10.res (size_op opZ_len) rfl opA_one ?_; intro wz hgz hgrz hzz; clear hzz))
                refine bodyPost_ret (results_cell_tmp rfl _ _ w1.heap.size _ _ _ _ rfl hgz Tryd.underlying33 rfl (size_op opZ_len) _ rfl) rfl ?_
                exact said_bad HE.out (hT10.bad hgrz)
              · have hT10 := hT7.go hb10
                have hPR := rparams_any (rroad x) (mustL x.q x.t) (mayL x.q x.t) HOK.out.must HOK.out.may (must_le x) (may_le x) hO10 (show Tg.Ps w10 B m d Q from hT10.oB.rd) (by omega) HQS.out (fun q hq e => by have h1 := hB7 q hq; have e' : q = g9 := e; omega)
                dsimp only at hPR
                rw [← ask_params x.q x.t HOK.out.qt HAP.out] at hPR
                obtain ⟨G, hG1⟩ : ∃ G, askR x.q x.t Q o = G := ⟨_, rfl⟩
                rw [hG1] at hPR
                have HPR := Lib.hid hPR
                have hsay : sayR x P Q = G := by
                  unfold sayR
                  rw [HF1.out, hyes]
                  exact hG1
                have HSY := Lib.hid hsay
                clear hPR hG1 hsay hyes
                unfold Filled at HPR
                go_wp2_with fail
                refine hK _ _ ⟨⟨w10, hb10⟩, rfl⟩ ?_
                clear hK
                iterate 5 (refine plan_read (o := ⟨_, _, _, _, _, _⟩) (by rfl) (by rfl) ?_; go_big_quiet_step (fail); refine wpQuiet_nil ?_)
                refine plan_load (o := ⟨_, _, _, _, _, _⟩) (by rfl) rfl (by rfl) _ rfl _ (fun w' hS => by obtain ⟨b, rfl⟩ := hS; exact hld b) ?_
                simp only [Act.put, List.setIfInBounds_toArray, List.set_cons_succ, List.set_cons_zero]
                iterate 2 (refine plan_read (o := ⟨_, _, _, _, _, _⟩) (by rfl) (by rfl) ?_; go_big_quiet_step (fail); refine wpQuiet_nil ?_)
                refine plan_one (o := ⟨_, _, _, _, _, _⟩) (by rfl) (fun K hK => ?_)
                go_wp2_with fail
                refine HPR.out.mono ?_
                rintro e w11 ⟨hgr11, hres⟩
                have hb11 : Below w7.heap.size w7 w11 := hb10.grown hgr11 hb10.size (fun q hq => by obtain rfl := Option.some.inj hq; exact hg9)
                have hT11 := hT7.go hb11
                have ho11 := ho10.grown hgr11 (fun q hq e => hne9 q hq (Option.some.inj e).symm)
                clear hgr11 HPR hT10 ho10 hO10 hb10
                rcases hres with ⟨hno, rfl⟩ | ⟨o2, hyes, rfl, hO11⟩
                · have HE : Hid (toR r.m r.t = (none, 400)) := hF.out.trans (HFN.out (HSY.out.trans hno))
                  clear hno
                  go_wp2_with fail
                  refine hK _ _ ⟨⟨w11, hb11⟩, rfl⟩ ?_
                  clear hK
                  iterate 2 (refine plan_read (o := ⟨_, _, _, _, _, _⟩) (by rfl) (by rfl) ?_; go_big_quiet_step (fail); refine wpQuiet_nil ?_)
                  refine plan_fin ?_
                  clear hld ptg pmt hidx
                  go_wp2_with (first
                    | (refine wpList_build_run rfl _ _ rfl #[] (by rfl) _ (build_op0 _) ?_)
                    | (refine wpList_store_all rfl _ _ _ rfl w1.heap.size rfl _ (opA opvZ) (opA opvZ) rfl hT11.res (size_op opZ_len) rfl opA_one ?_; intro wz hgz hgrz hzz; clear hzz))
                  refine bodyPost_ret (results_cell_tmp rfl _ _ w1.heap.size _ _ _ _ rfl hgz Tryd.underlying33 rfl (size_op opZ_len) _ rfl) rfl ?_
                  exact said_bad HE.out (hT11.bad hgrz)
                · have HE : Hid (toR r.m r.t = (some (x, o2), 0)) := hF.out.trans (HFX.out o2 (HSY.out.trans hyes))
                  clear hyes
                  go_wp2_with fail
                  refine hK _ _ ⟨⟨w11, hb11⟩, rfl⟩ ?_
                  clear hK
                  iterate 2 (refine plan_read (o := ⟨_, _, _, _, _, _⟩) (by rfl) (by rfl) ?_; go_big_quiet_step (fail); refine wpQuiet_nil ?_)
                  refine plan_fin ?_
                  clear hld ptg pmt hidx
                  have hxb := HOK.out.b
                  have hd1 := d_eq1 x.d
                  have hd3 := d_eq3 x.d
                  obtain ⟨b1, hb1⟩ : ∃ b, (x.d == 1) = b := ⟨_, rfl⟩
                  obtain ⟨b2, hb2⟩ : ∃ b, (x.d == 3) = b := ⟨_, rfl⟩
                  rw [hb1] at hd1 hxb
                  rw [hb2] at hd3 hxb
                  have hcd := hO11.cDo
                  dsimp only at hcd
                  have HB0 := Lib.hid hxb
                  clear hxb hb1 hb2
                  cases b1
                  · cases b2
                    · have HB : Hid (x.b = false) := HB0.out
                      have hO11' := hO11.obj
                      have hok := hO11.ok
                      go_wp2_with (first
                        | (refine wpList_load_all (by rfl) _ _ rfl g9 rfl _ _ _ _ hO11' Tryd.underlying33 rfl (size_op hok) ?_)
                        | (refine wpList_store_all rfl _ _ _ rfl w1.heap.size rfl _ (opA opvZ) _ rfl hT11.res (size_op hok) ((opA_size opZ_len).trans (opA_size hok).symm) opA_one ?_; intro wz hgz hgrz hzz; clear hzz))
                      refine bodyPost_ret (results_cell_tmp rfl _ _ w1.heap.size _ _ _ _ rfl hgz Tryd.underlying33 rfl (size_op hok) _ rfl) rfl ?_
                      exact said_ok (x := ⟨(x.d : Int), o2, none, 0, 0, A7, n7, c7⟩) HE.out (hT11.bad hgrz) hok rfl rfl HB.out (Own.nil_ _ _ _ _) ((ho11.mono hT7.base.size).grown hgrz (fun q hq e => by obtain rfl := Option.some.inj e; have h1 := (ho11.lt _ hq).1; omega))
                    · have HB : Hid (x.b = true) := HB0.out
                      have hcq := (cell_rq hT11.rq).2.2.2
                      have hcq2 := fun ob : Obj => (cell_rq (obj_on hT11.rq ((Below.refl w11.heap.size w11).alloc (Nat.le_refl _) ob))).2.2.2
                      have hbd := (HI.out _ hT11.base).bd
                      have hkk := (HI.out _ hT11.base).k
                      have hg9lt := hO11.lt
                      have hs11 := hb11.size
                      have hsw := hT11.base.size
                      clear hT11
                      go_wp2_with (first
                        | (at_builtin; refine wpList_app rfl _ _ rfl eb (Own.lit _ w11.heap.size [] _ 0 rfl (by decide) (Nat.le_refl _)) rfl (hbd.alloc _) rfl (b8_one _) (by omega) (by unfold maxLen; omega) (by simp) ?_; intro A8 c8 w12 ho12 hg12 hq12; rw [Nat.zero_add, List.nil_append] at ho12; rw [Nat.zero_add]; clear hq12; have hbl12 : Below w11.heap.size w11 w12 := ((Below.refl w11.heap.size w11).alloc (Nat.le_refl _) _).grown hg12 (by simp) (by intro g hg; simp [blk] at hg; omega); clear hg12; have hO12 := hO11.below hbl12; have hcB := hO12.cBody; have hfB := hO12.free 37; have hO13 := hO12.setBody A8 r.k c8; have hO13' := hO13.obj; have hok13 := hO13.ok; have hgr13 : w12.grownBy (w12.setCell ⟨g9, 37, none⟩ (.slice A8 r.k c8)) (some g9) := ⟨rfl, rfl, rfl, by simp, fun k _ hk => cells_other (fun e => hk (by rw [e]))⟩; have hb12 := hb11.trans (hbl12.mono hb11.size); have hb13 := hb12.grown hgr13 hb12.size (fun q hq => (by obtain rfl := Option.some.inj hq; exact hg9)); have hT13 := hT7.go hb13; have htk13 := (ho11.below hbl12).grown hgr13 (fun q hq e => hne9 q hq (Option.some.inj e).symm); have ho13 := ho12.grown hgr13 (fun q hq e => (by obtain rfl := Option.some.inj e; have h1 := (ho12.lt _ hq).1; omega)); clear hcq hcq2 hgr13 hb12 hb13 hO12 hO13 ho12 hbl12)
                        | (refine wpList_load_all (by rfl) _ _ rfl g9 rfl _ _ _ _ hO13' Tryd.underlying33 rfl (size_op hok13) ?_)
                        | (refine wpList_store_all rfl _ _ _ rfl w1.heap.size rfl _ (opA opvZ) _ rfl hT13.res (size_op hok13) ((opA_size opZ_len).trans (opA_size hok13).symm) opA_one ?_; intro wz hgz hgrz hzz; clear hzz))
                      refine bodyPost_ret (results_cell_tmp rfl _ _ w1.heap.size _ _ _ _ rfl hgz Tryd.underlying33 rfl (size_op hok13) _ rfl) rfl ?_
                      exact said_ok (x := ⟨(x.d : Int), o2, A8, r.k, c8, A7, n7, c7⟩) HE.out (hT13.bad hgrz) hok13 rfl rfl HB.out ((ho13.mono hsw).grown hgrz (fun q hq e => by obtain rfl := Option.some.inj e; have h1 := (ho13.lt _ hq).1; omega)) ((htk13.mono hT7.base.size).grown hgrz (fun q hq e => by obtain rfl := Option.some.inj e; have h1 := (htk13.lt _ hq).1; omega))
                  · have HB : Hid (x.b = true) := HB0.out
                    clear hd3
                    have hcq := (cell_rq hT11.rq).2.2.2
                    have hcq2 := fun ob : Obj => (cell_rq (obj_on hT11.rq ((Below.refl w11.heap.size w11).alloc (Nat.le_refl _) ob))).2.2.2
                    have hbd := (HI.out _ hT11.base).bd
                    have hkk := (HI.out _ hT11.base).k
                    have hg9lt := hO11.lt
                    have hs11 := hb11.size
                    have hsw := hT11.base.size
                    clear hT11
                    go_wp2_with (first
                      | (at_builtin; refine wpList_app rfl _ _ rfl eb (Own.lit _ w11.heap.size [] _ 0 rfl (by decide) (Nat.le_refl _)) rfl (hbd.alloc _) rfl (b8_one _) (by omega) (by unfold maxLen; omega) (by simp) ?_; intro A8 c8 w12 ho12 hg12 hq12; rw [Nat.zero_add, List.nil_append] at ho12; rw [Nat.zero_add]; clear hq12; have hbl12 : Below w11.heap.size w11 w12 := ((Below.refl w11.heap.size w11).alloc (Nat.le_refl _) _).grown hg12 (by simp) (by intro g hg; simp [blk] at hg; omega); clear hg12; have hO12 := hO11.below hbl12; have hcB := hO12.cBody; have hfB := hO12.free 37; have hO13 := hO12.setBody A8 r.k c8; have hO13' := hO13.obj; have hok13 := hO13.ok; have hgr13 : w12.grownBy (w12.setCell ⟨g9, 37, none⟩ (.slice A8 r.k c8)) (some g9) := ⟨rfl, rfl, rfl, by simp, fun k _ hk => cells_other (fun e => hk (by rw [e]))⟩; have hb12 := hb11.trans (hbl12.mono hb11.size); have hb13 := hb12.grown hgr13 hb12.size (fun q hq => (by obtain rfl := Option.some.inj hq; exact hg9)); have hT13 := hT7.go hb13; have htk13 := (ho11.below hbl12).grown hgr13 (fun q hq e => hne9 q hq (Option.some.inj e).symm); have ho13 := ho12.grown hgr13 (fun q hq e => (by obtain rfl := Option.some.inj e; have h1 := (ho12.lt _ hq).1; omega)); clear hcq hcq2 hgr13 hb12 hb13 hO12 hO13 ho12 hbl12)
                      | (refine wpList_load_all (by rfl) _ _ rfl g9 rfl _ _ _ _ hO13' Tryd.underlying33 rfl (size_op hok13) ?_)
                      | (refine wpList_store_all rfl _ _ _ rfl w1.heap.size rfl _ (opA opvZ) _ rfl hT13.res (size_op hok13) ((opA_size opZ_len).trans (opA_size hok13).symm) opA_one ?_; intro wz hgz hgrz hzz; clear hzz))
                    refine bodyPost_ret (results_cell_tmp rfl _ _ w1.heap.size _ _ _ _ rfl hgz Tryd.underlying33 rfl (size_op hok13) _ rfl) rfl ?_
                    exact said_ok (x := ⟨(x.d : Int), o2, A8, r.k, c8, A7, n7, c7⟩) HE.out (hT13.bad hgrz) hok13 rfl rfl HB.out ((ho13.mono hsw).grown hgrz (fun q hq e => by obtain rfl := Option.some.inj e; have h1 := (ho13.lt _ hq).1; omega)) ((htk13.mono hT7.base.size).grown hgrz (fun q hq e => by obtain rfl := Option.some.inj e; have h1 := (htk13.lt _ hq).1; omega))
          · have hmf : (x.m == r.m) = false := by simpa using hmm
            have HG : Hid (toR r.m r.t = findR r.m P Q (roadsT.drop (k + 1)) 405) := hF.out.trans (find_other hx hf hmm)
            clear hf hfi hx hF hmm hXn hln
            go_upto_region 12 with fail
            refine wp_region_plan (MPlan.reads [0, 1, 2, 3, 4, 5, 6, 7] .fin) (fun x => ∃ b : Later w6, x = b.at') (by kernel_rfl) (by kernel_rfl) (by kernel_rfl) (fun _ _ _ _ _ h => h) ⟨⟨w6.drew, drewL⟩, rfl⟩ ?_
            iterate 8 (refine plan_read (o := ⟨_, _, _, _, _, _⟩) (by rfl) (by rfl) ?_; go_big_quiet_step (fail); refine wpQuiet_nil ?_)
            refine plan_fin ?_
            clear qm xm
            go_wp2_with fail
            go_roundw
            case rel => exact ⟨k + 1, 405, by omega, by omega, rfl, by go_num, hT7, hR7, HG⟩
            case measure => simp [intOf]; omega
      · obtain rfl : k = 17 := by omega
        have HE : Hid (toR r.m r.t = (none, st)) := hF.out.trans (find_end (by rw [roads_len]; exact Nat.le_refl _))
        clear hF hR hk17
        go_wp2_with (first
          | (refine wpList_build_run rfl _ _ rfl #[] (by rfl) _ (build_op0 _) ?_)
          | (refine wpList_store_all rfl _ _ _ rfl w1.heap.size rfl _ (opA opvZ) (opA opvZ) rfl hT.res (size_op opZ_len) rfl opA_one ?_; intro wz hgz hgrz hzz; clear hzz))
        refine bodyPost_ret (results_cell_tmp rfl _ _ w1.heap.size _ _ _ _ rfl hgz Tryd.underlying33 rfl (size_op opZ_len) _ rfl) rfl ?_
        exact said_bad HE.out (hT.bad hgrz)
  · have HE : Hid (toR r.m r.t = (none, 400)) := HTO.out.trans (if_neg hE)
    have hE' : ((E : Int) == 0) = false := by simpa using hE
    clear hE HTO HPL
    go_wp2_with (first
      | (refine wpList_build_run rfl _ _ rfl #[] (by rfl) _ (build_op0 _) ?_)
      | (refine wpList_store_all rfl _ _ _ rfl w1.heap.size rfl _ (opA opvZ) (opA opvZ) rfl hT.res (size_op opZ_len) rfl opA_one ?_; intro wz hgz hgrz hzz; clear hzz))
    refine bodyPost_ret (results_cell_tmp rfl _ _ w1.heap.size _ _ _ _ rfl hgz Tryd.underlying33 rfl (size_op opZ_len) _ rfl) rfl ?_
    exact said_bad HE.out (hT.bad hgrz)

end Go.Proofs.YtaopohacelmglaaDoor
