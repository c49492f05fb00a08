/-
  Joined texts of this claim's author (each began as a text of its own; each says itself what it holds).
-/
import Derived.Test.YtaopohacelmglaaDoorG06
import Derived.Test.YtaopohacelmglaaDoorG05
import Derived.Test.YtaopohacelmglaaDoorG02
import Derived.Test.YtaopohacelmglaaDoorG04
import Derived.Lib.LazyBuf
set_option linter.unusedVariables false
set_option linter.unusedSimpArgs false

/-
  Package route: ask of a road that makes a token.
-/
namespace Go.Proofs.YtaopohacelmglaaDoor
open Go.RowKit

set_option maxRecDepth 20000 in
set_option maxHeartbeats 8000000 in
theorem ask_t {w : World} {g : Nat} {x : Opv} {A : Option Addr} {n cc : Nat} {Q : List Tg.Pm} (m p : Bs) (d : Nat) (b : Bool) (hO : OpB w g x) (hQ : Tg.Ps w A n cc Q) (hn : n ≤ 1048577) (hp : ∀ r ∈ Q, r.2.length ≤ 4096) (hA : ∀ q, blk A = some q → q ≠ g) :
    Calls Tryd.prog 23 #[.agg (roadA ⟨m, p, d, b, false, true⟩), .pointer (some ⟨g, 0, none⟩), .slice A n cc] w (Filled x g (askR false true Q x.o) w) := by
  have HQL := Lib.hid hQ.len
  have HQ := Lib.hid (fun W (hg : w.grownBy W (some g)) => (Rd.grown hQ hg (fun q hq e => hA q hq (Option.some.inj e).symm) : Tg.Ps W A n cc Q))
  have HPP := Lib.hid hp
  clear hQ hp hA
  have hlt := hO.lt
  go_enter Tryd.func23, Tryd.ntmps23
  go_upto_region 1 with (refine wpList_box rfl _ _ rfl (roadA ⟨m, p, d, b, false, true⟩) rfl ?_; intro w1 hg1 hb1 hz1; clear hz1)
  have hc4 : w1.cell? ⟨w.heap.size, 4, none⟩ = some (.bool false) := (cell_road hg1).2.2.2.2.1
  have hc5 : w1.cell? ⟨w.heap.size, 5, none⟩ = some (.bool true) := (cell_road hg1).2.2.2.2.2
  have hO1 := hO.below hb1
  have hgr1 : w.grownBy w1 (some g) := ⟨hb1.os, hb1.tape, hb1.output, hb1.size, fun k hk _ => hb1.block k hk⟩
  clear hO
  go_wp2_with fail
  go_loopw [7, 17] (fun mv iv wr => ∃ (k c : Nat) (M : Int) (o : OpR), k ≤ n ∧ c ≤ k ∧ M = 2 - c ∧ mv = .int .i64 M ∧ iv = .int .i64 k ∧ OpB wr g { x with o := o } ∧ w.grownBy wr (some g) ∧ w1.grownBy wr (some g) ∧ Hid (Asked false true Q x.o k c o)) (fun _ iv _ => n - (intOf iv).toNat)
  case atStart => exact ⟨0, 0, 2, x.o, by omega, by omega, by omega, rfl, rfl, hO1, hgr1, ⟨rfl, rfl, rfl, Nat.le_refl _, fun _ _ _ => rfl⟩, asked_start⟩
  case round =>
    obtain ⟨k, c, M, o, hk, hck, hM, rfl, rfl, hOB, hgw, hg2, hF⟩ := hrel
    by_cases hkn : k < n
    · have hx : Q[k]? = some (Q[k]'(by rw [HQL.out]; exact hkn)) := List.getElem?_eq_getElem _
      generalize Q[k]'(by rw [HQL.out]; exact hkn) = r at hx
      have hQr : Tg.Ps wr A n cc Q := HQ.out wr hgw
      have hidx := fun W => hQr.idx hkn W
      have HLD := Lib.hid (hQr.load hx)
      have hk' : (k : Int) < n := by omega
      have hM1 : -1048577 ≤ M := by omega
      have hM2 : M ≤ 2 := by omega
      obtain ⟨y, z⟩ := r
      dsimp only at HLD
      have hzl := HPP.out _ (List.mem_of_getElem? hx)
      dsimp only at hzl
      have hszz := size_mk z
      have hbox : ∀ W, Below wr.heap.size wr W → W.cell? ⟨w.heap.size, 4, none⟩ = some (.bool false) ∧ W.cell? ⟨w.heap.size, 5, none⟩ = some (.bool true) := fun W hW => by
        have h := road_on hg1 (grown_go hg2 hW) (by omega)
        exact ⟨(cell_road h).2.2.2.2.1, (cell_road h).2.2.2.2.2⟩
      clear hkn hQr
      by_cases c1 : y = riW
      · subst c1
        obtain ⟨⟨V, E⟩, hV⟩ : ∃ r, Rt.parseP z 16 0 = r := ⟨_, rfl⟩
        have HM := Lib.hid (fun W => Rt.Parse_any z W)
        rw [hV] at HM
        dsimp only at HM
        have hs := askS_ri z o
        rw [hV] at hs
        dsimp only at hs
        unfold riW at HLD
        clear hV 
        by_cases hE : E = 0
        · subst hE
          have HA := Lib.hid (asked_some hF.out hx (hs.trans (if_pos rfl)))
          clear hs hx hF
          go_wp2_with (first
                  | (refine wpList_load_run rfl _ _ rfl _ rfl _ HLD.out ?_)
                  | (refine wpList_alloc_zero rfl _ rfl (Tg.prA [] []) Tg.zero_pr ?_; intro w4 hg4 hb4 hz4; clear hz4)
                  | (refine wpList_store_all rfl _ _ _ rfl wr.heap.size rfl _ _ _ rfl hg4 (Tg.size_pr _ _) rfl (Tg.pr_one _ _) ?_; intro w5 hg5 hgr5 hz5; clear hz5; have hb5 : Below wr.heap.size wr w5 := hb4.grown hgr5 hb4.size (fun g hg => (by obtain rfl := Option.some.inj hg; exact Nat.le_refl _)); have hd0 := (Tg.cell_pr hg5).1; have hd1 := (Tg.cell_pr hg5).2; have he4 := (hbox w5 hb5).1; have he5 := (hbox w5 hb5).2; have hO5 := hOB.below hb5; have hgw5 := grown_go hgw hb5; have hg25 := grown_go hg2 hb5; have hf5 := hO5.free 36; have hc5 := hO5.cRts; have hO6 := hO5.setRts V; have hgw6 := grown_set hgw5 36 (.int .u8 (V : Int)); have hg26 := grown_set hg25 36 (.int .u8 (V : Int)); clear hg4 hb4 hgr5))
          refine (HM.out _).mono ?_
          rintro e w3 ⟨rfl, rfl⟩
          go_wp2_with fail
          go_roundw
          case rel => exact ⟨k + 1, c + 1, M - 1, _, by omega, by omega, by omega, by go_num, by go_num, hO6, hgw6, hg26, HA⟩
          case measure => simp [intOf]; omega
        · have hE' : (E != 0) = true := by simpa using hE
          have HE := Lib.hid (asked_none hF.out hx (hs.trans (if_neg hE)))
          clear hs hx hF hE
          go_wp2_with (first
                  | (refine wpList_load_run rfl _ _ rfl _ rfl _ HLD.out ?_)
                  | (refine wpList_alloc_zero rfl _ rfl (Tg.prA [] []) Tg.zero_pr ?_; intro w4 hg4 hb4 hz4; clear hz4)
                  | (refine wpList_store_all rfl _ _ _ rfl wr.heap.size rfl _ _ _ rfl hg4 (Tg.size_pr _ _) rfl (Tg.pr_one _ _) ?_; intro w5 hg5 hgr5 hz5; clear hz5; have hb5 : Below wr.heap.size wr w5 := hb4.grown hgr5 hb4.size (fun g hg => (by obtain rfl := Option.some.inj hg; exact Nat.le_refl _)); have hd0 := (Tg.cell_pr hg5).1; have hd1 := (Tg.cell_pr hg5).2; have he4 := (hbox w5 hb5).1; have he5 := (hbox w5 hb5).2; have hO5 := hOB.below hb5; have hgw5 := grown_go hgw hb5; have hg25 := grown_go hg2 hb5; have hf5 := hO5.free 36; have hc5 := hO5.cRts; have hO6 := hO5.setRts V; have hgw6 := grown_set hgw5 36 (.int .u8 (V : Int)); have hg26 := grown_set hg25 36 (.int .u8 (V : Int)); clear hg4 hb4 hgr5))
          refine (HM.out _).mono ?_
          rintro e w3 ⟨rfl, rfl⟩
          go_wp2_with fail
          go_ret
          exact ⟨hgw6, .inl ⟨HE.out, rfl⟩⟩
      · have d1 : (y == [114, 105, 103, 104, 116, 115]) = false := by simpa [riW] using c1
        by_cases c2 : y = unW
        · subst c2
          obtain ⟨⟨V, E⟩, hV⟩ : ∃ r, Nm.numR ⟨z.toArray⟩ = r := ⟨_, rfl⟩
          have HM := Lib.hid (fun W => Nm.Number_any ⟨z.toArray⟩ (by rw [hszz]; omega) W)
          rw [hV] at HM
          dsimp only at HM
          have hs := askS_un z o
          rw [hV] at hs
          dsimp only at hs
          unfold unW at HLD
          clear hV c1 d1
          by_cases hE : E = 0
          · subst hE
            have HA := Lib.hid (asked_some hF.out hx (hs.trans (if_pos rfl)))
            clear hs hx hF
            go_wp2_with (first
                    | (refine wpList_load_run rfl _ _ rfl _ rfl _ HLD.out ?_)
                    | (refine wpList_alloc_zero rfl _ rfl (Tg.prA [] []) Tg.zero_pr ?_; intro w4 hg4 hb4 hz4; clear hz4)
                    | (refine wpList_store_all rfl _ _ _ rfl wr.heap.size rfl _ _ _ rfl hg4 (Tg.size_pr _ _) rfl (Tg.pr_one _ _) ?_; intro w5 hg5 hgr5 hz5; clear hz5; have hb5 : Below wr.heap.size wr w5 := hb4.grown hgr5 hb4.size (fun g hg => (by obtain rfl := Option.some.inj hg; exact Nat.le_refl _)); have hd0 := (Tg.cell_pr hg5).1; have hd1 := (Tg.cell_pr hg5).2; have he4 := (hbox w5 hb5).1; have he5 := (hbox w5 hb5).2; have hO5 := hOB.below hb5; have hgw5 := grown_go hgw hb5; have hg25 := grown_go hg2 hb5; have hf5 := hO5.free 35; have hc5 := hO5.cTil; have hO6 := hO5.setTil V; have hgw6 := grown_set hgw5 35 (.int .i64 V); have hg26 := grown_set hg25 35 (.int .i64 V); clear hg4 hb4 hgr5))
            refine (HM.out _).mono ?_
            rintro e w3 ⟨rfl, rfl⟩
            go_wp2_with fail
            go_roundw
            case rel => exact ⟨k + 1, c + 1, M - 1, _, by omega, by omega, by omega, by go_num, by go_num, hO6, hgw6, hg26, HA⟩
            case measure => simp [intOf]; omega
          · have hE' : (E != 0) = true := by simpa using hE
            have HE := Lib.hid (asked_none hF.out hx (hs.trans (if_neg hE)))
            clear hs hx hF hE
            go_wp2_with (first
                    | (refine wpList_load_run rfl _ _ rfl _ rfl _ HLD.out ?_)
                    | (refine wpList_alloc_zero rfl _ rfl (Tg.prA [] []) Tg.zero_pr ?_; intro w4 hg4 hb4 hz4; clear hz4)
                    | (refine wpList_store_all rfl _ _ _ rfl wr.heap.size rfl _ _ _ rfl hg4 (Tg.size_pr _ _) rfl (Tg.pr_one _ _) ?_; intro w5 hg5 hgr5 hz5; clear hz5; have hb5 : Below wr.heap.size wr w5 := hb4.grown hgr5 hb4.size (fun g hg => (by obtain rfl := Option.some.inj hg; exact Nat.le_refl _)); have hd0 := (Tg.cell_pr hg5).1; have hd1 := (Tg.cell_pr hg5).2; have he4 := (hbox w5 hb5).1; have he5 := (hbox w5 hb5).2; have hO5 := hOB.below hb5; have hgw5 := grown_go hgw hb5; have hg25 := grown_go hg2 hb5; have hf5 := hO5.free 35; have hc5 := hO5.cTil; have hO6 := hO5.setTil V; have hgw6 := grown_set hgw5 35 (.int .i64 V); have hg26 := grown_set hg25 35 (.int .i64 V); clear hg4 hb4 hgr5))
            refine (HM.out _).mono ?_
            rintro e w3 ⟨rfl, rfl⟩
            go_wp2_with fail
            go_ret
            exact ⟨hgw6, .inl ⟨HE.out, rfl⟩⟩
        · have d2 : (y == [117, 110, 116, 105, 108]) = false := by simpa [unW] using c2
          by_cases c3 : y = teW
          · subst c3
            obtain ⟨V, hV⟩ : ∃ b, Nm.nameB ⟨z.toArray⟩ = b := ⟨_, rfl⟩
            have HM := Lib.hid (fun W => Nm.May_any ⟨z.toArray⟩ W)
            rw [hV] at HM
            have hs := askS_te z o
            rw [hV] at hs
            unfold teW at HLD
            clear hV c1 c2 d1 d2
            cases V
            · have HE := Lib.hid (asked_none hF.out hx (hs.trans (if_neg (by decide))))
              clear hs hx hF
              go_wp2_with (first
          | (refine wpList_load_run rfl _ _ rfl _ rfl _ HLD.out ?_)
          | (refine wpList_alloc_zero rfl _ rfl (Tg.prA [] []) Tg.zero_pr ?_; intro w4 hg4 hb4 hz4; clear hz4)
          | (refine wpList_store_all rfl _ _ _ rfl wr.heap.size rfl _ _ _ rfl hg4 (Tg.size_pr _ _) rfl (Tg.pr_one _ _) ?_; intro w5 hg5 hgr5 hz5; clear hz5; have hb5 : Below wr.heap.size wr w5 := hb4.grown hgr5 hb4.size (fun g hg => (by obtain rfl := Option.some.inj hg; exact Nat.le_refl _)); have hd0 := (Tg.cell_pr hg5).1; have hd1 := (Tg.cell_pr hg5).2; have he4 := (hbox w5 hb5).1; have he5 := (hbox w5 hb5).2; have hO5 := hOB.below hb5; have hgw5 := grown_go hgw hb5; have hg25 := grown_go hg2 hb5; clear hg4 hb4 hgr5))
              refine (HM.out _).mono ?_
              rintro e w3 ⟨rfl, rfl⟩
              go_wp2_with fail
              go_ret
              exact ⟨hgw5, .inl ⟨HE.out, rfl⟩⟩
            · have HA := Lib.hid (asked_some hF.out hx (hs.trans (if_pos rfl)))
              clear hs hx hF
              go_wp2_with (first
          | (refine wpList_load_run rfl _ _ rfl _ rfl _ HLD.out ?_)
          | (refine wpList_alloc_zero rfl _ rfl (Tg.prA [] []) Tg.zero_pr ?_; intro w4 hg4 hb4 hz4; clear hz4)
          | (refine wpList_store_all rfl _ _ _ rfl wr.heap.size rfl _ _ _ rfl hg4 (Tg.size_pr _ _) rfl (Tg.pr_one _ _) ?_; intro w5 hg5 hgr5 hz5; clear hz5; have hb5 : Below wr.heap.size wr w5 := hb4.grown hgr5 hb4.size (fun g hg => (by obtain rfl := Option.some.inj hg; exact Nat.le_refl _)); have hd0 := (Tg.cell_pr hg5).1; have hd1 := (Tg.cell_pr hg5).2; have he4 := (hbox w5 hb5).1; have he5 := (hbox w5 hb5).2; have hO5 := hOB.below hb5; have hgw5 := grown_go hgw hb5; have hg25 := grown_go hg2 hb5; have hf5 := hO5.free 1; have hc5 := hO5.cTn; have hO6 := hO5.setTn z; have hgw6 := grown_set hgw5 1 (.string ⟨z.toArray⟩); have hg26 := grown_set hg25 1 (.string ⟨z.toArray⟩); clear hg4 hb4 hgr5))
              refine (HM.out _).mono ?_
              rintro e w3 ⟨rfl, rfl⟩
              go_wp2_with fail
              go_roundw
              case rel => exact ⟨k + 1, c + 0, M, _, by omega, by omega, by omega, by rw [hM], by go_num, hO6, hgw6, hg26, HA⟩
              case measure => simp [intOf]; omega
          · have d3 : (y == [116, 101, 110, 97, 110, 116]) = false := by simpa [teW] using c3
            have HE := Lib.hid (asked_none hF.out hx (askS_tno d1 d2 d3 z o))
            clear c1 c2 c3 hx hF
            go_wp2_with (first
          | (refine wpList_load_run rfl _ _ rfl _ rfl _ HLD.out ?_)
          | (refine wpList_alloc_zero rfl _ rfl (Tg.prA [] []) Tg.zero_pr ?_; intro w4 hg4 hb4 hz4; clear hz4)
          | (refine wpList_store_all rfl _ _ _ rfl wr.heap.size rfl _ _ _ rfl hg4 (Tg.size_pr _ _) rfl (Tg.pr_one _ _) ?_; intro w5 hg5 hgr5 hz5; clear hz5; have hb5 : Below wr.heap.size wr w5 := hb4.grown hgr5 hb4.size (fun g hg => (by obtain rfl := Option.some.inj hg; exact Nat.le_refl _)); have hd0 := (Tg.cell_pr hg5).1; have hd1 := (Tg.cell_pr hg5).2; have he4 := (hbox w5 hb5).1; have he5 := (hbox w5 hb5).2; have hO5 := hOB.below hb5; have hgw5 := grown_go hgw hb5; have hg25 := grown_go hg2 hb5; clear hg4 hb4 hgr5))
            go_ret
            exact ⟨hgw5, .inl ⟨HE.out, rfl⟩⟩
    · obtain rfl : k = n := by omega
      have hq := hF.out
      rw [← HQL.out] at hq
      have hend := asked_end hq
      rw [show mustN false true = 2 from rfl] at hend
      clear hq hF hkn
      by_cases hc0 : c = 2
      · rw [if_pos hc0] at hend
        have HE := Lib.hid hend
        obtain rfl : M = 0 := by omega
        clear hend hM hc0
        go_wp2_with fail
        go_ret
        exact ⟨hgw, .inr ⟨o, HE.out, rfl, hOB⟩⟩
      · rw [if_neg hc0] at hend
        have HE := Lib.hid hend
        have hM0 : (M == 0) = false := by
          rw [beq_eq_false_iff_ne]
          omega
        clear hend hM hc0
        go_wp2_with fail
        go_ret
        exact ⟨hgw, .inl ⟨HE.out, rfl⟩⟩

end Go.Proofs.YtaopohacelmglaaDoor

/-
  Rows of roads; the clone of bytes by the library's contract; ask for every road.
-/
namespace Go.Proofs.YtaopohacelmglaaDoor
open Go.RowKit

section
variable {w : World} {A : Option Addr} {n c : Nat} {l : List Road} {k : Nat} {r : Road}
theorem rds_load (h : Rd w 6 A n c (rdsL l)) (hx : l[k]? = some r) : (loadVar 58 (at_ A (k * 6))).run Tryd.prog w = .ok (.agg (roadA r)) w := by
  have hl := run_loadCells_list (P := Tryd.prog) w (at_ A (k * 6)) (roadA r).toList (fun j v hv => by
    rw [Tg.at_add2]
    have hj : j < 6 := (List.getElem?_eq_some_iff.1 hv).1
    exact Rd.cell h (k * 6 + j) v ((rdsL_at l k r hx j hj).trans hv))
  have e : (roadA r).toList.length = 6 := rfl
  have e2 : ((roadA r).toList).toArray = roadA r := rfl
  rw [e, e2] at hl
  have hi : (Tryd.prog.info? 58).map (·.size) = some 6 := size_road r
  simp [loadVar, isAgg, run_underlying Tryd.underlying58, sizeOf_run hi, hl]
theorem rds_idx (h : Rd w 6 A n c (rdsL l)) (hk : k < n) (W : World) : (Instr.indexAt 55 (.slice A n c) (.int .i64 (k : Int))).run Tryd.prog W = .ok (.pointer (some (at_ A (k * 6)))) W :=
  run_index_rd er (Rd.nil h) (Rd.le h) k hk W
end
theorem rds_new {w : World} : Rd (w.alloc (.cells (rdsL roadsT).toArray 58)) 6 (some ⟨w.heap.size, 0, none⟩) 17 17 (rdsL roadsT) :=
  (Own.new (base := 0) (e := 58) (size := 6) w (rdsL roadsT).toArray (0, 0) 17 17 (rdsL roadsT) (Nat.zero_le _) (Nat.le_refl _) (by decide) (by rw [rdsL_len]; rfl) (by rw [List.size_toArray, rdsL_len]; decide) (fun j u h => by rw [List.getElem?_toArray]; exact h) (fun j _ h => by omega)).rd

theorem ask_any {w : World} {g : Nat} {x : Opv} {A : Option Addr} {n c : Nat} {Q : List Tg.Pm} {r : Road} (hr : (r.q && r.t) = false) (hO : OpB w g x) (hQ : Tg.Ps w A n c Q) (hn : n ≤ 1048577) (hp : ∀ q ∈ Q, q.2.length ≤ 4096) (hA : ∀ q, blk A = some q → q ≠ g) :
    Calls Tryd.prog 23 #[.agg (roadA r), .pointer (some ⟨g, 0, none⟩), .slice A n c] w (Filled x g (askR r.q r.t Q x.o) w) := by
  obtain ⟨m, p, d, b, q, t⟩ := r
  cases q
  · cases t
    · exact ask_n m p d b hO hQ hn
    · exact ask_t m p d b hO hQ hn hp hA
  · cases t
    · exact ask_q m p d b hO hQ hn hp hA
    · cases hr

end Go.Proofs.YtaopohacelmglaaDoor

/-
  Package route: token.
-/
namespace Go.Proofs.YtaopohacelmglaaDoor
open Go.RowKit

def autW : Bs := [97, 117, 116, 104, 111, 114, 105, 122, 97, 116, 105, 111, 110]
def bearW : Bs := [66, 101, 97, 114, 101, 114, 32]
def digF (v : Bs) : ByteArray := ⟨(Lib.trimPrefix v bearW).toArray⟩
/-- The token that a value says: none, where it says none. -/
noncomputable def tokV (v : Bs) (e : Int) : Option Bs :=
  if e = 0 ∧ Lib.hasPrefix v bearW = true ∧ (Nm.uxR (digF v)).2 = 0 ∧ (Nm.uxR (digF v)).1 ≠ [] then some (Nm.uxR (digF v)).1 else none
noncomputable def tokF (fs : List Fl.Fd) : Bs := if (Fl.getF fs autW).2 = 5 then [] else (tokV (Fl.getF fs autW).1 (Fl.getF fs autW).2).getD [0]
theorem trimPrefix_le (v p : Bs) : (Lib.trimPrefix v p).length ≤ v.length := by
  unfold Lib.trimPrefix
  split
  · simp
  · exact Nat.le_refl _

set_option maxRecDepth 20000 in
set_option maxHeartbeats 8000000 in
theorem token_any {w : World} {A : Option Addr} {n c : Nat} {fs : List Fl.Fd} (h : Fl.Fds w A n c fs) (hn : n ≤ 1000) (hl : (Fl.getF fs autW).1.length ≤ 1048576) :
    Calls Tryd.prog 21 #[.slice A n c] w fun e w' => ∃ A' n' c', e = .returned (.slice A' n' c') ∧ Own w' w.heap.size 5 1 A' n' c' ((tokF fs).map b8) ∧ Below w.heap.size w w' := by
  have HG := Lib.hid (Fl.Get_any h hn autW)
  unfold Fl.Got at HG
  have htf : ∀ v e, Fl.getF fs autW = (v, e) → tokF fs = if e = 5 then [] else (tokV v e).getD [0] := fun v e h => by unfold tokF; rw [h]
  obtain ⟨v, e, hg⟩ : ∃ v e, Fl.getF fs autW = (v, e) := ⟨_, _, rfl⟩
  have HT := Lib.hid (htf v e hg)
  rw [hg] at HG hl
  dsimp only at HG hl
  unfold autW at HG
  have HC := Lib.hid (fun W => Tryd.strings_CutPrefix ⟨v.toArray⟩ ⟨#[66, 101, 97, 114, 101, 114, 32]⟩ W)
  have HU := Lib.hid (fun W => Nm.Unhex_any (digF v) (by
    have := trimPrefix_le v bearW
    show ((Lib.trimPrefix v bearW).length : Int) ≤ _
    omega) W)
  clear htf hg h
  go_enter Tryd.func21, Tryd.ntmps21
  go_wp2_with fail
  refine HG.out.mono ?_
  rintro x w1 ⟨rfl, hb1⟩
  by_cases h5 : e = 5
  · subst h5
    have HE : Hid (tokF fs = []) := by
      show _ = _
      rw [HT.out]
      exact if_pos rfl
    go_wp2_with fail
    go_ret
    exact ⟨_, _, _, rfl, by rw [HE.out]; exact Own.nil_ _ _ _ _, hb1⟩
  have h5' : (e == 5) = false := by simpa using h5
  have hT : tokF fs = (tokV v e).getD [0] := by rw [HT.out, if_neg h5]
  have hno : tokV v e = none → tokF fs = [0] := fun h => by rw [hT, h]; rfl
  have HNO := Lib.hid hno
  have hys : ∀ t, tokV v e = some t → tokF fs = t := fun t h => by rw [hT, h]; rfl
  have HYS := Lib.hid hys
  have hV : tokV v e = if e = 0 ∧ Lib.hasPrefix v bearW = true ∧ (Nm.uxR (digF v)).2 = 0 ∧ (Nm.uxR (digF v)).1 ≠ [] then some (Nm.uxR (digF v)).1 else none := rfl
  have hdg : digF v = ⟨(Lib.trimPrefix v bearW).toArray⟩ := rfl
  rw [show ([66, 101, 97, 114, 101, 114, 32] : Bs) = bearW from rfl] at HC
  obtain ⟨D, hD⟩ : ∃ D, digF v = D := ⟨_, rfl⟩
  rw [← hdg, hD] at HC
  rw [hD] at HU hV
  obtain ⟨pf, hpf⟩ : ∃ b, Lib.hasPrefix v bearW = b := ⟨_, rfl⟩
  obtain ⟨⟨X, E2⟩, hX⟩ : ∃ r, Nm.uxR D = r := ⟨_, rfl⟩
  rw [hpf] at HC hV
  rw [hX] at HU hV
  dsimp only at HU hV
  have HV := Lib.hid hV
  clear hT hno hys hV hdg hD hpf hX h5 HT
  go_wp2_with fail
  by_cases h0 : e = 0
  · subst h0
    cases pf
    · have HE := Lib.hid (HNO.out (by rw [HV.out]; exact if_neg (by simp)))
      refine (HC.out _).mono ?_
      rintro x wx ⟨rfl, rfl⟩
      go_wp2_with fail
      refine (HU.out _).mono ?_
      rintro x w2 ⟨A2, n2, c2, rfl, ho2, hbl2⟩
      have hb2 := hb1.trans (hbl2.mono hb1.size)
      have hq2 := hb2.size
      go_wp2_with (refine wpList_lit1 (v := .int .u8 0) rfl rfl eb rfl (fill_u8 _) ?_; intro w3 hw3; have hr3 : Own w3 w.heap.size 5 1 (some ⟨w2.heap.size, 0, none⟩) 1 1 [.int .u8 0] := (by rw [hw3]; exact Own.lit w2 w.heap.size [.int .u8 0] 5 1 rfl (by unfold maxLen; omega) hb2.size); have hb3 := lit1_below hw3 hb2 hb2.size; clear hw3)
      go_ret
      exact ⟨_, _, _, rfl, by rw [HE.out]; exact hr3, hb3⟩
    · by_cases h2 : E2 = 0
      · subst h2
        by_cases hXe : X = []
        · subst hXe
          have HE := Lib.hid (HNO.out (by rw [HV.out]; exact if_neg (by simp)))
          refine (HC.out _).mono ?_
          rintro x wx ⟨rfl, rfl⟩
          go_wp2_with fail
          refine (HU.out _).mono ?_
          rintro x w2 ⟨A2, n2, c2, rfl, ho2, hbl2⟩
          have hb2 := hb1.trans (hbl2.mono hb1.size)
          obtain rfl : 0 = n2 := by simpa using ho2.rd.len
          go_wp2_with (refine wpList_lit1 (v := .int .u8 0) rfl rfl eb rfl (fill_u8 _) ?_; intro w3 hw3; have hr3 : Own w3 w.heap.size 5 1 (some ⟨w2.heap.size, 0, none⟩) 1 1 [.int .u8 0] := (by rw [hw3]; exact Own.lit w2 w.heap.size [.int .u8 0] 5 1 rfl (by unfold maxLen; omega) hb2.size); have hb3 := lit1_below hw3 hb2 hb2.size; clear hw3)
          go_ret
          exact ⟨_, _, _, rfl, by rw [HE.out]; exact hr3, hb3⟩
        · have HE := Lib.hid (HYS.out X (by rw [HV.out]; exact if_pos ⟨rfl, rfl, rfl, hXe⟩))
          refine (HC.out _).mono ?_
          rintro x wx ⟨rfl, rfl⟩
          go_wp2_with fail
          refine (HU.out _).mono ?_
          rintro x w2 ⟨A2, n2, c2, rfl, ho2, hbl2⟩
          have hb2 := hb1.trans (hbl2.mono hb1.size)
          have hn2 : ((n2 : Int) == 0) = false := by
            have h1 := ho2.lenb
            have h2 : X.length ≠ 0 := fun h => hXe (List.eq_nil_of_length_eq_zero h)
            simp
            omega
          clear hXe
          go_wp2_with fail
          go_ret
          exact ⟨_, _, _, rfl, by rw [HE.out]; exact ho2.mono hb1.size, hb2⟩
      · have h2' : (E2 != 0) = true := by simpa using h2
        have HE := Lib.hid (HNO.out (by rw [HV.out]; exact if_neg (by simp [h2])))
        clear h2
        refine (HC.out _).mono ?_
        rintro x wx ⟨rfl, rfl⟩
        go_wp2_with fail
        refine (HU.out _).mono ?_
        rintro x w2 ⟨A2, n2, c2, rfl, ho2, hbl2⟩
        have hb2 := hb1.trans (hbl2.mono hb1.size)
        have hq2 := hb2.size
        go_wp2_with (refine wpList_lit1 (v := .int .u8 0) rfl rfl eb rfl (fill_u8 _) ?_; intro w3 hw3; have hr3 : Own w3 w.heap.size 5 1 (some ⟨w2.heap.size, 0, none⟩) 1 1 [.int .u8 0] := (by rw [hw3]; exact Own.lit w2 w.heap.size [.int .u8 0] 5 1 rfl (by unfold maxLen; omega) hb2.size); have hb3 := lit1_below hw3 hb2 hb2.size; clear hw3)
        go_ret
        exact ⟨_, _, _, rfl, by rw [HE.out]; exact hr3, hb3⟩
  · have h0' : (e != 0) = true := by simpa using h0
    have HE := Lib.hid (HNO.out (by rw [HV.out]; exact if_neg (by simp [h0])))
    clear h0
    refine (HC.out _).mono ?_
    rintro x wx ⟨rfl, rfl⟩
    go_wp2_with fail
    refine (HU.out _).mono ?_
    rintro x w2 ⟨A2, n2, c2, rfl, ho2, hbl2⟩
    have hb2 := hb1.trans (hbl2.mono hb1.size)
    have hq2 := hb2.size
    go_wp2_with (refine wpList_lit1 (v := .int .u8 0) rfl rfl eb rfl (fill_u8 _) ?_; intro w3 hw3; have hr3 : Own w3 w.heap.size 5 1 (some ⟨w2.heap.size, 0, none⟩) 1 1 [.int .u8 0] := (by rw [hw3]; exact Own.lit w2 w.heap.size [.int .u8 0] 5 1 rfl (by unfold maxLen; omega) hb2.size); have hb3 := lit1_below hw3 hb2 hb2.size; clear hw3)
    go_ret
    exact ⟨_, _, _, rfl, by rw [HE.out]; exact hr3, hb3⟩

end Go.Proofs.YtaopohacelmglaaDoor

/-
  bytes.Clone.
-/
namespace Go.Proofs.YtaopohacelmglaaDoor
open Go.RowKit

theorem Clone_any (A : Option Addr) (n c : Nat) (l : List UInt8) (w : World) (h : Rd w 1 A n c (l.map b8)) (hn : n ≤ 1073741824) :
    Calls Tryd.prog 24 #[.slice A n c] w fun e w' => ∃ A' n' c', e = .returned (.slice A' n' c') ∧ Own w' w.heap.size 5 1 A' n' c' (l.map b8) ∧ Below w.heap.size w w' := by
  have hln := h.lenb
  have hE := fun W => Go.run_eql_slice_nil (P := Tryd.prog) W 23 5 A n c Tryd.underlying23
  cases A with
  | none =>
    have h1 := h.nil rfl
    have h2 := h.le
    have hn0 : n = 0 := by omega
    subst hn0
    have hc0 : c = 0 := by omega
    subst hc0
    obtain rfl : l = [] := List.eq_nil_of_length_eq_zero hln
    go_enter Tryd.func24, Tryd.ntmps24
    go_wp2_with fail
    go_ret
    exact ⟨none, 0, 0, rfl, Own.nil_ _ _ _ _, Below.refl _ _⟩
  | some a =>
    go_enter Tryd.func24, Tryd.ntmps24
    go_wp2_with (at_builtin; refine wpList_app rfl _ _ rfl eb (Own.lit _ w.heap.size [] _ 0 rfl (by decide) (Nat.le_refl _)) rfl (h.alloc _) rfl (b8_one _) (by omega) (by unfold maxLen; omega) (by simp) ?_; intro A1 c1 w1 ho1 hg1 hb1; rw [Nat.zero_add, List.nil_append] at ho1)
    go_ret
    exact ⟨A1, n, c1, rfl, ho1, ((Below.refl w.heap.size w).alloc (Nat.le_refl _) _).grown hg1 (by simp) (by intro g hg; simp [blk] at hg; omega)⟩

end Go.Proofs.YtaopohacelmglaaDoor

/-
  Package route: To.
-/
namespace Go.Proofs.YtaopohacelmglaaDoor
open Go.RowKit

/-- A request, in memory. -/
structure Req where
  m : Bs
  t : Bs
  A : Option Addr
  n : Nat
  c : Nat
  fs : List Fl.Fd
  B : Option Addr
  k : Nat
  d : Nat
  bd : Bs
  kp : Bool
def rqA (r : Req) : Array Value := #[.string ⟨r.m.toArray⟩, .string ⟨r.t.toArray⟩, .slice r.A r.n r.c, .slice r.B r.k r.d, .bool r.kp]
structure RqIn (w : World) (r : Req) : Prop where
  fs : Fl.Fds w r.A r.n r.c r.fs
  bd : Rd w 1 r.B r.k r.d (r.bd.map b8)
  n : r.n ≤ 1000
  v : (Fl.getF r.fs autW).1.length ≤ 1048576
  k : r.k ≤ 1073741824
  t : r.t.length ≤ 4096
theorem RqIn.below {w w' : World} {r : Req} (h : RqIn w r) (hb : Below w.heap.size w w') : RqIn w' r := ⟨h.fs.below hb, h.bd.below hb, h.n, h.v, h.k, h.t⟩
section
variable {w : World} {g : Nat} {r : Req} {t : TypeId} {fr : Nat × Nat}
theorem cell_rq (h : w.heap[g]? = some (.cells (rqA r) t fr)) : w.cell? ⟨g, 0, none⟩ = some (.string ⟨r.m.toArray⟩) ∧ w.cell? ⟨g, 1, none⟩ = some (.string ⟨r.t.toArray⟩) ∧ w.cell? ⟨g, 2, none⟩ = some (.slice r.A r.n r.c) ∧ w.cell? ⟨g, 3, none⟩ = some (.slice r.B r.k r.d) := by
  refine ⟨?_, ?_, ?_, ?_⟩ <;> simp [World.cell?, h, rqA]
end
theorem zero_road : (Tryd.prog.info? 58).map (·.zero) = some (some (.agg (roadA rdZ))) := by kernel_rfl
theorem road_one (r : Road) : ∀ v ∈ (roadA r).toList, v.oneCell' = true := by
  intro v hv
  simp only [roadA, List.mem_cons, List.not_mem_nil, or_false] at hv
  rcases hv with rfl | rfl | rfl | rfl | rfl | rfl <;> rfl
theorem build_op {d : Int} {A : Option Addr} {n c : Nat} (W : World) : (Instr.build 33 #[(0, .int .i64 d), (7, .slice A n c)]).run Tryd.prog W = .ok (.agg (opA ⟨d, opZ, none, 0, 0, A, n, c⟩)) W := by kernel_rfl
theorem roads_rd (w : World) : Calls Tryd.prog 19 #[] w fun e w' => ∃ A : Option Addr, e = .returned (.slice A 17 17) ∧ Rd w' 6 A 17 17 (rdsL roadsT) ∧ (∀ q, blk A = some q → w.heap.size ≤ q) ∧ Below w.heap.size w w' :=
  (roads_any w).mono (by
    rintro e w' ⟨rfl, rfl⟩
    exact ⟨_, rfl, rds_new, fun q hq => (by simp [blk] at hq; omega), (Below.refl _ _).alloc (Nat.le_refl _) _⟩)
/-- What comes of a request. -/
def Said (R : Option (Road × OpR) × Nat) (tk bd : Bs) (w : World) (e : Ending) (w' : World) : Prop :=
  Below w.heap.size w w' ∧ ∃ x : Opv, e = .returned (.tuple #[.agg (opA x), .int .i64 (R.2 : Int)]) ∧ x.o.of.length = 32 ∧ (R.1 = none → x = opvZ) ∧
    ∀ r o, R.1 = some (r, o) → x.d = r.d ∧ x.o = o ∧ Own w' w.heap.size 5 1 x.bA x.bn x.bc ((if r.b then bd else []).map b8) ∧ Own w' w.heap.size 5 1 x.tA x.tn x.tc (tk.map b8)
theorem said_bad {s : Nat} {R : Option (Road × OpR) × Nat} {tk bd : Bs} {w w' : World} (h : R = (none, s)) (hb : Below w.heap.size w w') : Said R tk bd w (.returned (.tuple #[.agg (opA opvZ), .int .i64 (s : Int)])) w' := by
  subst h
  exact ⟨hb, opvZ, rfl, rfl, fun _ => rfl, fun r o h => by cases h⟩

end Go.Proofs.YtaopohacelmglaaDoor
