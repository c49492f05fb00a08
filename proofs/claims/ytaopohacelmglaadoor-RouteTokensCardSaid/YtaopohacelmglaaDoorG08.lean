/-
  Joined texts of this claim's author (each began as a text of its own; each says itself what it holds).
-/
import Derived.Test.YtaopohacelmglaaDoorG07
set_option linter.unusedVariables false
set_option linter.unusedSimpArgs false

/-
  Package route: To makes of a request what is said.
-/
namespace Go.Proofs.YtaopohacelmglaaDoor
open Go.RowKit

structure ToS (w0 : World) (r : Req) (g1 g2 g4 : Nat) (A : Option Addr) (n c : Nat) (B : Option Addr) (m d : Nat) (P : List Bs) (Q : List Tg.Pm) (W : World) : Prop where
  base : Below w0.heap.size w0 W
  lo : w0.heap.size ≤ g2
  rq : W.heap[g1]? = some (.cells (rqA r) 25 (0, 0))
  res : W.heap[g2]? = some (.cells (opA opvZ) 33 (0, 0))
  tg : W.heap[g4]? = some (.cells (Tg.tgA A n c B m d) 51 (0, 0))
  oA : Own W w0.heap.size 9 1 A n c (P.map Tg.strV)
  oB : Own W w0.heap.size 91 2 B m d (Tg.prL Q)
theorem obj_lt {w : World} {g : Nat} {x : Obj} (h : w.heap[g]? = some x) : g < w.heap.size := (Array.getElem?_eq_some_iff.1 h).1
theorem obj_on {w w' : World} {g : Nat} {x : Obj} (h : w.heap[g]? = some x) (hb : Below w.heap.size w w') : w'.heap[g]? = some x := (hb.block g (obj_lt h)).trans h
section
variable {w0 W W' : World} {r : Req} {g1 g2 g4 : Nat} {A B : Option Addr} {n c m d : Nat} {P : List Bs} {Q : List Tg.Pm}
theorem ToS.go (h : ToS w0 r g1 g2 g4 A n c B m d P Q W) (hb : Below W.heap.size W W') : ToS w0 r g1 g2 g4 A n c B m d P Q W' :=
  ⟨h.base.trans (hb.mono h.base.size), h.lo, obj_on h.rq hb, obj_on h.res hb, obj_on h.tg hb, h.oA.below hb, h.oB.below hb⟩
theorem ToS.bad (h : ToS w0 r g1 g2 g4 A n c B m d P Q W) (hg : W.grownBy W' (some g2)) : Below w0.heap.size w0 W' :=
  h.base.grown hg h.base.size (fun q hq => by obtain rfl := Option.some.inj hq; exact h.lo)
end

theorem said_ok {R : Option (Road × OpR) × Nat} {tk bd : Bs} {w w' : World} {x : Opv} {r : Road} {o : OpR} {bb : Bool} (h : R = (some (r, o), 0)) (hb : Below w.heap.size w w') (hl : x.o.of.length = 32) (hd : x.d = r.d) (ho : x.o = o) (hbb : r.b = bb) (h1 : Own w' w.heap.size 5 1 x.bA x.bn x.bc ((if bb then bd else []).map b8)) (h2 : Own w' w.heap.size 5 1 x.tA x.tn x.tc (tk.map b8)) : Said R tk bd w (.returned (.tuple #[.agg (opA x), .int .i64 0])) w' := by
  subst h
  subst hbb
  refine ⟨hb, x, rfl, hl, fun h => (by cases h), fun r' o' h => ?_⟩
  obtain ⟨rfl, rfl⟩ := Prod.mk.inj (Option.some.inj h)
  exact ⟨hd, ho, h1, h2⟩
theorem drewL {w : World} : Below w.heap.size w w.drew := (Below.refl _ _).drew
theorem plan_build2 {P : Program} {ops : Array Oper} {Q : Exit → Act → World → Prop} {S : World → Prop} {i : Nat} {o : Oper} {p : MPlan} {a : Act} {w : World} (ho : ops[i]? = some o) {ty : TypeId} {n m : Nat} {x y : Operand} (hop : o.op = .build ty #[(n, x), (m, y)]) (hw : Region.wanted o (yielded ops a.tmps) = true) (u v : Value) (hx : a.eval x = u) (hy : a.eval y = v) (z : Value) (hrun : ∀ w', (Instr.build ty #[(n, u), (m, v)]).run P w' = .ok z w')
    (h : wpPlan P ops Q S p (a.put o.dst z) w) : wpPlan P ops Q S (.read i p) a w :=
  plan_run ho hw z (fun w' _ => by
    subst hx
    subst hy
    unfold execOp
    simp only [hop, Sem.run_bind, Sem.run_pure, Result.andThen_ok, List.map_toArray, List.map_cons, List.map_nil, hrun w']) h

set_option maxRecDepth 20000 in
set_option maxHeartbeats 8000000 in
theorem To_any {w : World} (r : Req) (h : RqIn w r) (hm : Mx w) :
    Calls Tryd.prog 10 #[.agg (rqA r)] w (Said (toR r.m r.t) (tokF r.fs) r.bd w) := by
  have HM := Lib.hid (fun W (hb : Below w.heap.size w W) => hm.below hb)
  have HI := Lib.hid (fun W (hb : Below w.heap.size w W) => h.below hb)
  have ht := h.t
  have HP := Lib.hid (fun W (hb : Below w.heap.size w W) => Tg.Parse_any r.t (by omega) W (hm.below hb))
  unfold Tg.Parsed at HP
  obtain ⟨P, Q, E, hpf⟩ : ∃ P Q E, Tg.parseF r.t = (P, Q, E) := ⟨_, _, _, rfl⟩
  have hto : toR r.m r.t = if E = 0 then findR r.m P Q roadsT 404 else (none, 400) := by
    unfold toR
    rw [hpf]
  have hpl : E = 0 → P.length ≤ 4097 ∧ Q.length ≤ 4097 ∧ (∀ p ∈ P, p.length ≤ 4096) ∧ ∀ q ∈ Q, q.2.length ≤ 4096 := fun he => by
    subst he
    obtain ⟨_, h1, h2, h3, h4⟩ := parse_len hpf
    exact ⟨by omega, by omega, fun p hp => by have := h3 p hp; omega, fun q hq => by have := (h4 q hq).2; omega⟩
  rw [hpf] at HP
  dsimp only at HP
  have HTO := Lib.hid hto
  have HPL := Lib.hid hpl
  clear hpf hto hpl hm h ht
  go_enter Tryd.func10, Tryd.ntmps10
  go_upto_region 1 with (first
    | (refine wpList_box rfl _ _ rfl (rqA r) rfl ?_; intro w1 hg1 hb1 hz1; clear hz1)
    | (refine wpList_alloc_zero rfl _ rfl (opA opvZ) zero_op ?_; intro w2 hg2 hb2 hz2; clear hz2))
  have hg1' := obj_on hg1 hb2
  have hq1 := (cell_rq hg1').2.1
  have hbb : Below w.heap.size w w2 := hb1.trans (hb2.mono hb1.size)
  have hlo := hb1.size
  clear hb2
  go_wp2_with fail
  refine (HP.out _ hbb).mono ?_
  rintro e w3 ⟨hb3, A, n, c, B, m, d, rfl, hoA, hoB⟩
  have hg1q := obj_on hg1' hb3
  have hg2q := obj_on hg2 hb3
  have hb3' := hbb.trans (hb3.mono hbb.size)
  have hs2 := hbb.size
  clear hg1 hg1' hg2 hb3 hb1
  go_upto_region 2 with (first
    | (refine wpList_alloc_zero rfl _ rfl Tg.tgZ Tg.zero_tg ?_; intro w4 hg4 hb4 hz4; clear hz4)
    | (refine wpList_store_all rfl _ _ _ rfl w3.heap.size rfl _ _ _ rfl hg4 Tg.size_tg rfl Tg.tg_one ?_; intro w5 hg5 hgr5 hz5; clear hz5; have hb5 : Below w3.heap.size w3 w5 := hb4.grown hgr5 hb4.size (fun g hg => (by obtain rfl := Option.some.inj hg; exact Nat.le_refl _)); clear hg4 hb4 hgr5))
  have hT : ToS w r w.heap.size w1.heap.size w3.heap.size A n c B m d P Q w5 := ⟨hb3'.trans (hb5.mono hb3'.size), hlo, obj_on hg1q hb5, obj_on hg2q hb5, hg5, (hoA.below hb5).mono hs2, (hoB.below hb5).mono hs2⟩
  clear hb5 hg5 hg1q hg2q hoA hoB hb3' hs2 hlo hbb hq1
  by_cases hE : E = 0
  · subst hE
    have hto := HTO.out
    rw [if_pos rfl] at hto
    obtain ⟨hPl, hQl, hPs, hQs⟩ := HPL.out rfl
    have HPS := Lib.hid hPs
    have HQS := Lib.hid hQs
    have HF : Hid (toR r.m r.t = findR r.m P Q (roadsT.drop 0) 404) := hto
    clear hto HTO HPL HP hPs hQs
    go_wp2_with fail
    refine (roads_rd _).mono ?_
    rintro e w6 ⟨C, rfl, hrd, _, hbl6⟩
    have hT6 := hT.go hbl6
    clear hT hbl6
    go_wp2_with fail
    go_loopw [6, 21] (fun s i wr => ∃ (k st : Nat), k ≤ 17 ∧ st ≤ 405 ∧ s = .int .i64 st ∧ i = .int .i64 k ∧ ToS w r w.heap.size w1.heap.size w3.heap.size A n c B m d P Q wr ∧ Rd wr 6 C 17 17 (rdsL roadsT) ∧ Hid (toR r.m r.t = findR r.m P Q (roadsT.drop k) st)) (fun _ i _ => 17 - (intOf i).toNat)
    case atStart => exact ⟨0, 404, by omega, by omega, rfl, rfl, hT6, hrd, HF⟩
    case round =>
      obtain ⟨k, st, hk, hst, rfl, rfl, hT, hR, hF⟩ := hrel
      clear hT6 hrd HF
      by_cases hk17 : k < 17
      · obtain ⟨x, hx⟩ : ∃ x, roadsT[k]? = some x := ⟨_, List.getElem?_eq_getElem (by rw [roads_len]; exact hk17)⟩
        have HOK := Lib.hid (roads_ok x (List.mem_of_getElem? hx))
        have hidx := fun W => rds_idx hR hk17 W
        have HLD := Lib.hid (rds_load hR hx)
        have hk' : (k : Int) < 17 := by omega
        have hR' := Lib.hid hR
        go_upto_region 8 with (first
          | (refine wpList_load_run rfl _ _ rfl _ rfl _ HLD.out ?_)
          | (refine wpList_alloc_zero rfl _ rfl (roadA rdZ) zero_road ?_; intro w4 hg4 hb4 hz4; clear hz4)
          | (refine wpList_store_all rfl _ _ _ rfl wr.heap.size rfl _ _ _ rfl hg4 (size_road _) rfl (road_one _) ?_; intro w5 hg5 hgr5 hz5; clear hz5; have hb5 : Below wr.heap.size wr w5 := hb4.grown hgr5 hb4.size (fun g hg => (by obtain rfl := Option.some.inj hg; exact Nat.le_refl _)); clear hg4 hb4 hgr5))
        have hT5 := hT.go hb5
        have hR5 := Lib.hid (hR.below hb5)
        have hct := (Tg.cell_tg hT5.tg).1
        have hmt := (Tg.cell_tg hT5.tg).2
        have hs5 := hb5.size
        clear hb5 hR' HLD hidx hR hT
        have HFI := Lib.hid (fits_any x HOK.out.p hT5.oA.rd (HM.out _ hT5.base))
        have hPn : P.length = n := by have := hT5.oA.rd.len; simpa using this
        have hfi := (fits_iff x.parts P)
        obtain ⟨f, hf⟩ : ∃ f, fitsF x.parts P = f := ⟨_, rfl⟩
        rw [hf] at HFI
        go_wp2_with (refine wpList_load_all (by rfl) _ _ rfl wr.heap.size rfl _ _ _ _ hg5 Tryd.underlying58 rfl (size_road x) ?_)
        refine HFI.out.mono ?_
        rintro e w7 ⟨rfl, hbl7⟩
        have hT7 := hT5.go hbl7
        have hR7 := hR5.out.below hbl7
        have hg7 := obj_on hg5 hbl7
        have hs7 := hbl7.size
        clear hbl7 hT5 hR5 hg5 hct hmt HFI
        cases f
        · have HG : Hid (toR r.m r.t = findR r.m P Q (roadsT.drop (k + 1)) st) := hF.out.trans (find_skip hx hf)
          clear hf hfi hx hF hg7
          go_wp2_with fail
          go_roundw
          case rel => exact ⟨k + 1, st, by omega, by omega, rfl, by go_num, hT7, hR7, HG⟩
          case measure => simp [intOf]; omega
        · have hln : x.parts.length = n := by rw [hf] at hfi; exact (hfi.1 rfl).1.trans hPn
          have hqm := (cell_rq hT7.rq).1
          have hxm := (cell_road hg7).1
          by_cases hmm : x.m = r.m
          · have HMM := Lib.hid hmm
            have HLN := Lib.hid hln
            have hmf : (x.m == r.m) = true := by simpa using hmm
            have HFX := Lib.hid (fun o => find_some (Q := Q) (s := st) (o := o) hx hf hmm)
            have HFN := Lib.hid (find_none (Q := Q) (s := st) hx hf hmm)
            have hQn : Q.length = m := Tg.Ps.len (show Tg.Ps w7 B m d Q from hT7.oB.rd)
            have hg2lt := obj_lt hT7.res
            clear hfi hmm hln hx hf hR7
            go_upto_region 11 with fail
            clear hqm hxm hmf
            go_cut [9] from 35 to 40 (fun v wx => ∃ (g9 : Nat) (A7 : Option Addr) (n7 c7 : Nat), v = .pointer (some ⟨g9, 0, none⟩) ∧ w7.heap.size ≤ g9 ∧ OpB wx g9 ⟨(x.d : Int), opZ, none, 0, 0, A7, n7, c7⟩ ∧ Own wx w7.heap.size 5 1 A7 n7 c7 ((tokF r.fs).map b8) ∧ (∀ q, blk A7 = some q → q ≠ g9) ∧ Below w7.heap.size w7 wx)
            case first =>
              have pd := fun b : Later w7 => (cell_road (obj_on hg7 b.below)).2.2.1
              have pf := fun b : Later w7 => (cell_rq (obj_on hT7.rq b.below)).2.2.1
              have HTK := Lib.hid (fun W (hb : Below w7.heap.size w7 W) => token_any ((HI.out _ (hT7.base.trans (hb.mono hT7.base.size))).fs) (HI.out _ hT7.base).n (HI.out _ hT7.base).v)
              refine wp_region_plan (MPlan.reads [0, 1, 2, 3] (.two 4 6 (.read 5 (.one 6 (.one 7 .fin))) (.one 4 (.read 5 (.one 7 .fin))))) (fun x => ∃ b : Later w7, x = b.at') (by kernel_rfl) (by kernel_rfl) (by kernel_rfl) (fun _ _ _ _ _ h => h) ⟨⟨w7.drew, drewL⟩, rfl⟩ ?_
              iterate 4 (refine plan_read (o := ⟨_, _, _, _, _, _⟩) (by rfl) (by rfl) ?_; go_big_quiet_step (fail); refine wpQuiet_nil ?_)
              refine plan_two (oi := ⟨_, _, _, _, _, _⟩) (oj := ⟨_, _, _, _, _, _⟩) (by rfl) (by rfl) (fun K hK => ?_) (fun K hK => ?_)
              · go_wp2_with fail
                refine (HTK.out _ drewL).mono ?_
                rintro e w8 ⟨A7, n7, c7, rfl, ho8, hbl8⟩
                have hb8 : Below w7.heap.size w7 w8 := drewL.trans hbl8
                clear hbl8
                go_wp2_with fail
                refine hK _ _ ⟨⟨w8, hb8⟩, rfl⟩ ?_
                clear hK
                refine plan_build2 (o := ⟨_, _, _, _, _, _⟩) (by rfl) rfl (by rfl) (.int .i64 (x.d : Int)) (.slice A7 n7 c7) rfl rfl _ (fun W => build_op W) ?_
                refine plan_one (o := ⟨_, _, _, _, _, _⟩) (by rfl) (fun K hK => ?_)
                go_wp2_with (refine wpList_alloc_zero rfl _ rfl (opA opvZ) zero_op ?_; intro w9 hg9 hb9 hz9; clear hz9)
                have hb9' := hb8.trans (hb9.mono hb8.size)
                refine hK _ _ ⟨⟨_, hb9'⟩, rfl⟩ ?_
                clear hK
                refine plan_one (o := ⟨_, _, _, _, _, _⟩) (by rfl) (fun K hK => ?_)
                go_wp2_with (refine wpList_store_all rfl _ _ _ rfl w8.heap.size rfl _ _ (opA ⟨(x.d : Int), opZ, none, 0, 0, A7, n7, c7⟩) rfl hg9 (size_op rfl) ((opA_size rfl).trans (opA_size rfl).symm) opA_one ?_; intro w10 hg10 hgr10 hz10; clear hz10)
                have hb10 : Below w7.heap.size w7 _ := hb9'.grown hgr10 hb9'.size (fun q hq => by obtain rfl := Option.some.inj hq; exact hb8.size)
                refine hK _ _ ⟨⟨_, hb10⟩, rfl⟩ ?_
                clear hK
                refine plan_fin ?_
                go_wp2_with fail
                go_meet
                exact ⟨_, A7, n7, c7, rfl, hb8.size, ⟨rfl, hg10⟩, (ho8.below hb9).grown hgr10 (fun q hq e => by obtain rfl := Option.some.inj e; have := (ho8.lt _ hq).2; omega), fun q hq e => (by subst e; have := (ho8.lt _ hq).2; omega), hb10⟩
              · go_wp2_with (refine wpList_alloc_zero rfl _ rfl (opA opvZ) zero_op ?_; intro w8 hg8 hb8 hz8; clear hz8)
                have hb8' : Below w7.heap.size w7 w8 := drewL.trans hb8
                refine hK _ _ ⟨⟨_, hb8'⟩, rfl⟩ ?_
                clear hK
                refine plan_one (o := ⟨_, _, _, _, _, _⟩) (by rfl) (fun K hK => ?_)
                go_wp2_with fail
                refine (HTK.out _ hb8').mono ?_
                rintro e w9 ⟨A7, n7, c7, rfl, ho9, hbl9⟩
                have hb9 := hb8'.trans (hbl9.mono hb8'.size)
                have hg9 := obj_on hg8 hbl9
                have hlt8 : w7.heap.size < w8.heap.size := obj_lt hg8
                clear hbl9
                go_wp2_with fail
                refine hK _ _ ⟨⟨_, hb9⟩, rfl⟩ ?_
                clear hK
                refine plan_build2 (o := ⟨_, _, _, _, _, _⟩) (by rfl) rfl (by rfl) (.int .i64 (x.d : Int)) (.slice A7 n7 c7) rfl rfl _ (fun W => build_op W) ?_
                refine plan_one (o := ⟨_, _, _, _, _, _⟩) (by rfl) (fun K hK => ?_)
                go_wp2_with (refine wpList_store_all rfl _ _ _ rfl w7.drew.heap.size rfl _ _ (opA ⟨(x.d : Int), opZ, none, 0, 0, A7, n7, c7⟩) rfl hg9 (size_op rfl) ((opA_size rfl).trans (opA_size rfl).symm) opA_one ?_; intro w10 hg10 hgr10 hz10; clear hz10)
                have hb10 : Below w7.heap.size w7 _ := hb9.grown hgr10 hb9.size (fun q hq => by obtain rfl := Option.some.inj hq; exact Nat.le_refl _)
                refine hK _ _ ⟨⟨_, hb10⟩, rfl⟩ ?_
                clear hK
                refine plan_fin ?_
                go_wp2_with fail
                go_meet
                exact ⟨_, A7, n7, c7, rfl, Nat.le_refl _, ⟨rfl, hg10⟩, (ho9.mono hb8'.size).grown hgr10 (fun q hq e => by have h1 := (ho9.lt _ hq).1; have e' : w7.heap.size = q := Option.some.inj e; omega), fun q hq e => (by have h1 := (ho9.lt _ hq).1; have e' : q = w7.heap.size := e; omega), hb10⟩
            case rest =>
              obtain ⟨g9, A7, n7, c7, rfl, hg9, hO9, ho9, hne9, hb9⟩ := hcut
              have hT9 := hT7.go hb9
              have hg8 := obj_on hg7 hb9
              have hct := (Tg.cell_tg hT9.tg).1
              have hFL := fill_any x HOK.out.p hO9 hT9.oA.rd HLN.out HPS.out (fun q hq e => by have h1 := (hT7.oA.lt q hq).2; have e' : q = g9 := e; omega) (HM.out _ hT9.base)
              dsimp only at hFL
              obtain ⟨F, hF1⟩ : ∃ F, fillF x.parts P opZ = F := ⟨_, rfl⟩
              rw [hF1] at hFL
              have HFL := Lib.hid hFL
              have HF1 := Lib.hid hF1
              clear hFL hF1 hPn
              unfold Filled at HFL
              go_wp2_with (refine wpList_load_all (by rfl) _ _ rfl wr.heap.size rfl _ _ _ _ hg8 Tryd.underlying58 rfl (size_road x) ?_)
              refine HFL.out.mono ?_
              rintro e w10 ⟨hgr10, hres⟩
              have hb10 : Below w7.heap.size w7 w10 := hb9.grown hgr10 hb9.size (fun q hq => by obtain rfl := Option.some.inj hq; exact hg9)
              have hT10 := hT7.go hb10
              have ho10 := ho9.grown hgr10 (fun q hq e => hne9 q hq (Option.some.inj e).symm)
              clear hgr10 hg8 hct HFL hT9 ho9 hO9 hb9
              rcases hres with ⟨hno, rfl⟩ | ⟨o, hyes, rfl, hO10⟩
              · have hsay : sayR x P Q = none := by
                  unfold sayR
                  rw [HF1.out, hno]
                  rfl
                have HE : Hid (toR r.m r.t = (none, 400)) := hF.out.trans (HFN.out hsay)
                clear hsay hno
                go_wp2_with (first
                  | (refine wpList_build_run rfl _ _ rfl #[] (by rfl) _ (build_op0 _) ?_)
                  | (refine wpList_store_all rfl _ _ _ rfl w1.heap.size rfl _ (opA opvZ) (opA opvZ) rfl hT10.res (size_op opZ_len) rfl opA_one ?_; intro wz hgz hgrz hzz; clear hzz))
                refine bodyPost_ret (results_cell_tmp rfl _ _ w1.heap.size _ _ _ _ rfl hgz Tryd.underlying33 rfl (size_op opZ_len) _ rfl) rfl ?_
                exact said_bad HE.out (hT10.bad hgrz)
              · have hg8 := obj_on hg7 hb10
                have hmt := (Tg.cell_tg hT10.tg).2
                have hAS := ask_any HOK.out.qt hO10 (show Tg.Ps w10 B m d Q from hT10.oB.rd) (by omega) HQS.out (fun q hq e => by have h1 := (hT7.oB.lt q hq).2; have e' : q = g9 := e; omega)
                dsimp only at hAS
                obtain ⟨G, hG1⟩ : ∃ G, askR x.q x.t Q o = G := ⟨_, rfl⟩
                rw [hG1] at hAS
                have HAS := Lib.hid hAS
                have hsay : sayR x P Q = G := by
                  unfold sayR
                  rw [HF1.out, hyes]
                  exact hG1
                have HSY := Lib.hid hsay
                clear hAS hG1 hsay hyes
                unfold Filled at HAS
                go_wp2_with (refine wpList_load_all (by rfl) _ _ rfl wr.heap.size rfl _ _ _ _ hg8 Tryd.underlying58 rfl (size_road x) ?_)
                refine HAS.out.mono ?_
                rintro e w11 ⟨hgr11, hres⟩
                have hb11 : Below w7.heap.size w7 w11 := hb10.grown hgr11 hb10.size (fun q hq => by obtain rfl := Option.some.inj hq; exact hg9)
                have hT11 := hT7.go hb11
                have ho11 := ho10.grown hgr11 (fun q hq e => hne9 q hq (Option.some.inj e).symm)
                clear hgr11 hg8 hmt HAS hT10 ho10 hO10 hb10
                rcases hres with ⟨hno, rfl⟩ | ⟨o2, hyes, rfl, hO11⟩
                · have HE : Hid (toR r.m r.t = (none, 400)) := hF.out.trans (HFN.out (HSY.out.trans hno))
                  clear hno
                  go_wp2_with (first
                    | (refine wpList_build_run rfl _ _ rfl #[] (by rfl) _ (build_op0 _) ?_)
                    | (refine wpList_store_all rfl _ _ _ rfl w1.heap.size rfl _ (opA opvZ) (opA opvZ) rfl hT11.res (size_op opZ_len) rfl opA_one ?_; intro wz hgz hgrz hzz; clear hzz))
                  refine bodyPost_ret (results_cell_tmp rfl _ _ w1.heap.size _ _ _ _ rfl hgz Tryd.underlying33 rfl (size_op opZ_len) _ rfl) rfl ?_
                  exact said_bad HE.out (hT11.bad hgrz)
                · have HE : Hid (toR r.m r.t = (some (x, o2), 0)) := hF.out.trans (HFX.out o2 (HSY.out.trans hyes))
                  clear hyes
                  have hcb := (cell_road (obj_on hg7 hb11)).2.2.2.1
                  obtain ⟨bb, hbb⟩ : ∃ bb, x.b = bb := ⟨_, rfl⟩
                  rw [hbb] at hcb
                  have HBB := Lib.hid hbb
                  have hO11' := hO11.obj
                  have hok := hO11.ok
                  clear hbb
                  cases bb
                  · go_wp2_with (first
                      | (refine wpList_load_all (by rfl) _ _ rfl g9 rfl _ _ _ _ hO11' Tryd.underlying33 rfl (size_op hok) ?_)
                      | (refine wpList_store_all rfl _ _ _ rfl w1.heap.size rfl _ (opA opvZ) _ rfl hT11.res (size_op hok) ((opA_size opZ_len).trans (opA_size hok).symm) opA_one ?_; intro wz hgz hgrz hzz; clear hzz))
                    refine bodyPost_ret (results_cell_tmp rfl _ _ w1.heap.size _ _ _ _ rfl hgz Tryd.underlying33 rfl (size_op hok) _ rfl) rfl ?_
                    exact said_ok (x := ⟨(x.d : Int), o2, none, 0, 0, A7, n7, c7⟩) HE.out (hT11.bad hgrz) hok rfl rfl HBB.out (Own.nil_ _ _ _ _) ((ho11.mono hT7.base.size).grown hgrz (fun q hq e => by obtain rfl := Option.some.inj e; have h1 := (ho11.lt _ hq).1; omega))
                  · have hcq := (cell_rq hT11.rq).2.2.2
                    have HCL := Lib.hid (Clone_any r.B r.k r.d r.bd w11 (HI.out _ hT11.base).bd (HI.out _ hT11.base).k)
                    go_wp2_with fail
                    refine HCL.out.mono ?_
                    rintro e w12 ⟨A8, n8, c8, rfl, ho12, hbl12⟩
                    have hb12 := hb11.trans (hbl12.mono hb11.size)
                    have hO12 := hO11.below hbl12
                    have htk12 := ho11.below hbl12
                    have hcB := hO12.cBody
                    have hfB := hO12.free 37
                    have hO13 := hO12.setBody A8 n8 c8
                    have hg9lt := hO11.lt
                    have hgr13 : w12.grownBy (w12.setCell ⟨g9, 37, none⟩ (.slice A8 n8 c8)) (some g9) := ⟨rfl, rfl, rfl, by simp, fun k _ hk => cells_other (fun e => hk (by rw [e]))⟩
                    have hb13 : Below w7.heap.size w7 _ := hb12.grown hgr13 hb12.size (fun q hq => by obtain rfl := Option.some.inj hq; exact hg9)
                    have hT13 := hT7.go hb13
                    have htk13 := htk12.grown hgr13 (fun q hq e => hne9 q hq (Option.some.inj e).symm)
                    have ho13 := ho12.grown hgr13 (fun q hq e => by obtain rfl := Option.some.inj e; have h1 := (ho12.lt _ hq).1; omega)
                    have hO13' := hO13.obj
                    have hok13 := hO13.ok
                    have hs11 := hb11.size
                    have hsw := hT11.base.size
                    clear hgr13 hO12 hb12 htk12 ho12 HCL hcq hO11' hok hT11 hO11 ho11
                    go_wp2_with (first
                      | (refine wpList_load_all (by rfl) _ _ rfl g9 rfl _ _ _ _ hO13' Tryd.underlying33 rfl (size_op hok13) ?_)
                      | (refine wpList_store_all rfl _ _ _ rfl w1.heap.size rfl _ (opA opvZ) _ rfl hT13.res (size_op hok13) ((opA_size opZ_len).trans (opA_size hok13).symm) opA_one ?_; intro wz hgz hgrz hzz; clear hzz))
                    refine bodyPost_ret (results_cell_tmp rfl _ _ w1.heap.size _ _ _ _ rfl hgz Tryd.underlying33 rfl (size_op hok13) _ rfl) rfl ?_
                    exact said_ok (x := ⟨(x.d : Int), o2, A8, n8, c8, A7, n7, c7⟩) HE.out (hT13.bad hgrz) hok13 rfl rfl HBB.out ((ho13.mono hsw).grown hgrz (fun q hq e => by obtain rfl := Option.some.inj e; have h1 := (ho13.lt _ hq).1; omega)) ((htk13.mono hT7.base.size).grown hgrz (fun q hq e => by obtain rfl := Option.some.inj e; have h1 := (htk13.lt _ hq).1; omega))
          · have hmf : (x.m == r.m) = false := by simpa using hmm
            have HG : Hid (toR r.m r.t = findR r.m P Q (roadsT.drop (k + 1)) 405) := hF.out.trans (find_other hx hf hmm)
            clear hf hfi hx hF hmm hg7
            go_wp2_with fail
            go_roundw
            case rel => exact ⟨k + 1, 405, by omega, by omega, rfl, by go_num, hT7, hR7, HG⟩
            case measure => simp [intOf]; omega
      · obtain rfl : k = 17 := by omega
        have HE : Hid (toR r.m r.t = (none, st)) := hF.out.trans (find_end (by rw [roads_len]; exact Nat.le_refl _))
        clear hF hR hk17
        go_wp2_with (first
          | (refine wpList_build_run rfl _ _ rfl #[] (by rfl) _ (build_op0 _) ?_)
          | (refine wpList_store_all rfl _ _ _ rfl w1.heap.size rfl _ (opA opvZ) (opA opvZ) rfl hT.res (size_op opZ_len) rfl opA_one ?_; intro wz hgz hgrz hzz; clear hzz))
        refine bodyPost_ret (results_cell_tmp rfl _ _ w1.heap.size _ _ _ _ rfl hgz Tryd.underlying33 rfl (size_op opZ_len) _ rfl) rfl ?_
        exact said_bad HE.out (hT.bad hgrz)
  · have HE : Hid (toR r.m r.t = (none, 400)) := HTO.out.trans (if_neg hE)
    have hE' : ((E : Int) != 0) = true := by simpa using hE
    clear hE HTO HPL
    go_wp2_with (first
      | (refine wpList_build_run rfl _ _ rfl #[] (by rfl) _ (build_op0 _) ?_)
      | (refine wpList_store_all rfl _ _ _ rfl w1.heap.size rfl _ (opA opvZ) (opA opvZ) rfl hT.res (size_op opZ_len) rfl opA_one ?_; intro wz hgz hgrz hzz; clear hzz))
    refine bodyPost_ret (results_cell_tmp rfl _ _ w1.heap.size _ _ _ _ rfl hgz Tryd.underlying33 rfl (size_op opZ_len) _ rfl) rfl ?_
    exact said_bad HE.out (hT.bad hgrz)

end Go.Proofs.YtaopohacelmglaaDoor
