/-
  Joined texts of this claim's author (each began as a text of its own; each says itself what it holds).
-/
import Derived.Test.YtaopohacelmglaaDoorG05
import Derived.Great.BuildSlice
import Derived.Test.YtaopohacelmglaaDoorG04
set_option linter.unusedVariables false
set_option linter.unusedSimpArgs false

/-
  The document's roads.
-/
namespace Go.Proofs.YtaopohacelmglaaDoor
open Go.RowKit

structure RRoad where
  m : Bs
  p : Bs
  must : Bs
  may : Bs
  d : Nat
def rroadA (r : RRoad) : Array Value := #[.string ⟨r.m.toArray⟩, .string ⟨r.p.toArray⟩, .string ⟨r.must.toArray⟩, .string ⟨r.may.toArray⟩, .int .i64 (r.d : Int)]
def rroadsT : List RRoad := [
  ⟨[80, 85, 84], [116, 47, 78, 65, 77, 69, 47, 98, 47, 72, 69, 88], [], [], 1⟩,
  ⟨[71, 69, 84], [116, 47, 78, 65, 77, 69, 47, 98, 47, 72, 69, 88], [], [], 2⟩,
  ⟨[80, 79, 83, 84], [116, 47, 78, 65, 77, 69, 47, 115], [], [], 3⟩,
  ⟨[71, 69, 84], [116, 47, 78, 65, 77, 69, 47, 115], [], [], 4⟩,
  ⟨[71, 69, 84], [116, 47, 78, 65, 77, 69, 47, 115, 47, 78], [], [], 5⟩,
  ⟨[71, 69, 84], [116, 47, 78, 65, 77, 69, 47, 115, 47, 78, 47, 102, 105, 108, 101, 115], [], [], 6⟩,
  ⟨[68, 69, 76, 69, 84, 69], [116, 47, 78, 65, 77, 69, 47, 115, 47, 78], [], [], 7⟩,
  ⟨[80, 79, 83, 84], [116, 47, 78, 65, 77, 69, 47, 115, 47, 78, 47, 115, 112, 97, 114, 101], [], [], 8⟩,
  ⟨[71, 69, 84], [116, 47, 78, 65, 77, 69, 47, 107, 101, 121], [], [], 9⟩,
  ⟨[80, 85, 84], [97, 47, 116, 47, 78, 65, 77, 69], [113, 117, 111, 116, 97], [], 10⟩,
  ⟨[80, 79, 83, 84], [97, 47, 116, 47, 78, 65, 77, 69], [113, 117, 111, 116, 97], [], 11⟩,
  ⟨[80, 79, 83, 84], [97, 47, 116, 47, 78, 65, 77, 69, 47, 109, 97, 114, 107], [], [], 14⟩,
  ⟨[80, 79, 83, 84], [97, 47, 116, 47, 78, 65, 77, 69, 47, 115, 119, 101, 101, 112], [], [], 15⟩,
  ⟨[80, 79, 83, 84], [97, 47, 116, 111, 107, 101, 110], [114, 105, 103, 104, 116, 115, 44, 117, 110, 116, 105, 108], [116, 101, 110, 97, 110, 116], 12⟩,
  ⟨[68, 69, 76, 69, 84, 69], [97, 47, 116, 111, 107, 101, 110, 47, 78], [], [], 13⟩,
  ⟨[71, 69, 84], [97, 47, 108, 111, 103], [], [], 16⟩,
  ⟨[71, 69, 84], [97, 47, 104, 101, 97, 100], [], [], 17⟩]
def rrdsL (l : List RRoad) : List Value := l.flatMap fun r => (rroadA r).toList
def rrdZ : RRoad := ⟨[], [], [], [], 0⟩
theorem err : ElemT Tryd.prog 63 67 (.agg (rroadA rrdZ)) 5 72 := ElemT.of Tryd.underlying63 (by kernel_rfl) rfl (by omega)

set_option maxRecDepth 100000 in
set_option maxHeartbeats 8000000 in
theorem rroads_any (w : World) : Calls Tryd.prog 26 #[] w fun e w' => e = .returned (.slice (some ⟨w.heap.size, 0, none⟩) 17 17) ∧ w' = w.alloc (.cells (rrdsL rroadsT).toArray 67) := by
  obtain ⟨ie, hie, hz, hs, _⟩ := (err).info
  go_enter Tryd.func26, Tryd.ntmps26
  go_wp2_with (refine wpList_buildSlice rfl 63 67 17 _ rfl (rrdsL rroadsT).toArray ie (.agg (rroadA rrdZ)) Tryd.underlying63 hie hz (by rw [hs]; decide) (by rw [hs]; decide) (by rw [hs]; kernel_rfl) ?_)
  go_ret
  exact ⟨rfl, rfl⟩

end Go.Proofs.YtaopohacelmglaaDoor

/-
  Plain: what a request comes to, both ways.
-/
namespace Go.Proofs.YtaopohacelmglaaDoor
open Go.RowKit

noncomputable def sayR (r : Road) (P : List Bs) (Q : List Tg.Pm) : Option OpR := (fillF r.parts P opZ).bind (askR r.q r.t Q)
noncomputable def findR (m : Bs) (P : List Bs) (Q : List Tg.Pm) : List Road → Nat → Option (Road × OpR) × Nat
  | [], s => (none, s)
  | r :: l, s => if fitsF r.parts P = true then (if r.m = m then (match sayR r P Q with | some o => (some (r, o), 0) | none => (none, 400)) else findR m P Q l 405) else findR m P Q l s
noncomputable def toR (m t : Bs) : Option (Road × OpR) × Nat := if (Tg.parseF t).2.2 = 0 then findR m (Tg.parseF t).1 (Tg.parseF t).2.1 roadsT 404 else (none, 400)
section
variable {m : Bs} {P : List Bs} {Q : List Tg.Pm} {l : List Road} {k s : Nat} {r : Road} {o : OpR}
theorem find_skip (hx : l[k]? = some r) (h : fitsF r.parts P = false) : findR m P Q (l.drop k) s = findR m P Q (l.drop (k + 1)) s := by
  obtain ⟨h1, e1⟩ := List.getElem?_eq_some_iff.1 hx
  rw [List.drop_eq_getElem_cons h1, e1]
  show (if fitsF r.parts P = true then _ else _) = _
  rw [if_neg (by rw [h]; decide)]
theorem find_other (hx : l[k]? = some r) (h : fitsF r.parts P = true) (hm : r.m ≠ m) : findR m P Q (l.drop k) s = findR m P Q (l.drop (k + 1)) 405 := by
  obtain ⟨h1, e1⟩ := List.getElem?_eq_some_iff.1 hx
  rw [List.drop_eq_getElem_cons h1, e1]
  show (if fitsF r.parts P = true then (if r.m = m then _ else _) else _) = _
  rw [if_pos h, if_neg hm]
theorem find_none (hx : l[k]? = some r) (h : fitsF r.parts P = true) (hm : r.m = m) (hs : sayR r P Q = none) : findR m P Q (l.drop k) s = (none, 400) := by
  obtain ⟨h1, e1⟩ := List.getElem?_eq_some_iff.1 hx
  rw [List.drop_eq_getElem_cons h1, e1]
  show (if fitsF r.parts P = true then (if r.m = m then (match sayR r P Q with | some o => _ | none => _) else _) else _) = _
  rw [if_pos h, if_pos hm, hs]
theorem find_some (hx : l[k]? = some r) (h : fitsF r.parts P = true) (hm : r.m = m) (hs : sayR r P Q = some o) : findR m P Q (l.drop k) s = (some (r, o), 0) := by
  obtain ⟨h1, e1⟩ := List.getElem?_eq_some_iff.1 hx
  rw [List.drop_eq_getElem_cons h1, e1]
  show (if fitsF r.parts P = true then (if r.m = m then (match sayR r P Q with | some o => _ | none => _) else _) else _) = _
  rw [if_pos h, if_pos hm, hs]
theorem find_end (h : l.length ≤ k) : findR m P Q (l.drop k) s = (none, s) := by
  rw [List.drop_eq_nil_of_le h]
  rfl
end
def mustS (r : Road) : Bs := if r.q then quW else if r.t then riW ++ 44 :: unW else []
def mayS (r : Road) : Bs := if r.t then teW else []
def rroad (r : Road) : RRoad := ⟨r.m, r.p, mustS r, mayS r, r.d⟩
theorem rroads_eq : rroadsT = roadsT.map rroad := by rfl
theorem roads_len : roadsT.length = 17 := rfl
structure RoadOk (r : Road) : Prop where
  p : r.p.length ≤ 1000
  ne : r.p ≠ []
  qt : (r.q && r.t) = false
  must : cutF 44 (mustS r) = mustL r.q r.t
  may : cutF 44 (mayS r) = mayL r.q r.t
  b : r.b = (r.d == 1 || r.d == 3)
  m : r.m.length ≤ 10
theorem roads_ok : ∀ r ∈ roadsT, RoadOk r := by
  intro r hr
  simp only [roadsT, List.mem_cons, List.not_mem_nil, or_false] at hr
  rcases hr with rfl | rfl | rfl | rfl | rfl | rfl | rfl | rfl | rfl | rfl | rfl | rfl | rfl | rfl | rfl | rfl | rfl <;> exact ⟨by decide, by decide, by decide, by decide, by decide, by decide, by decide⟩

open Tg in
theorem mapP_len {β : Type} {f : List UInt8 → Option β} : ∀ {P : List (List UInt8)} {o : List β}, mapP f P = some o → o.length = P.length
  | [], o, h => by
    obtain rfl := Option.some.inj h
    rfl
  | x :: P, o, h => by
    rw [mapP] at h
    cases hx : f x with
    | none => rw [hx] at h; cases h
    | some y =>
      rw [hx] at h
      cases hP : mapP f P with
      | none => rw [hP] at h; cases h
      | some ys =>
        rw [hP] at h
        obtain rfl := Option.some.inj h
        simp [mapP_len hP]
open Tg in
theorem path_count {s : List UInt8} {P : List (List UInt8)} (h : pathF s = some P) : P.length ≤ s.length + 1 := by
  unfold pathF at h
  split at h
  · obtain rfl := Option.some.inj h
    simp
  · split at h
    · cases h
    · split at h
      · rw [mapP_len h]
        have := (Tg.split1_le 47 (by assumption)).1
        simp only [List.length_cons]
        omega
      · cases h
open Tg in
theorem fin_ok {P P' : List Bs} {Q Q' : List Pm} (h : finF P' Q' = (P, Q, 0)) : P = P' ∧ Q = Q' ∧ MayP P Q := by
  unfold finF at h
  split at h
  · rename_i hm
    cases h
    exact ⟨rfl, rfl, mayF_iff.1 hm⟩
  · cases h
open Tg in
theorem parse_len {s : List UInt8} {P : List Bs} {Q : List Pm} (h : parseF s = (P, Q, 0)) : MayP P Q ∧ P.length ≤ s.length + 1 ∧ Q.length ≤ s.length + 1 ∧ (∀ p ∈ P, p.length ≤ s.length) ∧ ∀ q ∈ Q, q.1.length ≤ s.length ∧ q.2.length ≤ s.length := by
  obtain ⟨l1, l2⟩ := cut1_le 63 s
  unfold parseF at h
  split at h
  · cases h
  · rename_i P' hP
    have c1 := path_count hP
    have c2 := path_le hP
    unfold contEnd at h
    split at h
    · unfold contQ at h
      split at h
      · cases h
      · rename_i R hR
        obtain ⟨rfl, rfl, hm⟩ := fin_ok h
        have c3 := mapP_len hR
        have c4 := (Tg.split1_le 38 (cut1 63 s).2.1).1
        have c5 := query_le hR
        refine ⟨hm, by omega, by rw [c3]; omega, fun p hp => ?_, fun q hq => ?_⟩
        · have := c2 p hp
          omega
        · have := c5 q hq
          omega
    · obtain ⟨rfl, rfl, hm⟩ := fin_ok h
      refine ⟨hm, by omega, by simp, fun p hp => ?_, fun q hq => by cases hq⟩
      have := c2 p hp
      omega

end Go.Proofs.YtaopohacelmglaaDoor

/-
  Package route: fill.
-/
namespace Go.Proofs.YtaopohacelmglaaDoor
open Go.RowKit

theorem fill_drop {l P : List Bs} {k : Nat} {x y : Bs} (hx : l[k]? = some x) (hy : P[k]? = some y) (o : OpR) : fillF (l.drop k) (P.drop k) o = (fillS x y o).bind (fillF (l.drop (k + 1)) (P.drop (k + 1))) := by
  obtain ⟨h1, e1⟩ := List.getElem?_eq_some_iff.1 hx
  obtain ⟨h2, e2⟩ := List.getElem?_eq_some_iff.1 hy
  rw [List.drop_eq_getElem_cons h1, List.drop_eq_getElem_cons h2, e1, e2]
  rfl
theorem cells_other {w : World} {g i k : Nat} {v : Value} (h : g ≠ k) : (w.setCell ⟨g, i, none⟩ v).heap[k]? = w.heap[k]? := by
  simp [World.setCell, Array.getElem?_modify, h]
def Filled (x : Opv) (g : Nat) (R : Option OpR) (w : World) (e : Ending) (w' : World) : Prop :=
  w.grownBy w' (some g) ∧ ((R = none ∧ e = .returned (.bool false)) ∨ ∃ o, R = some o ∧ e = .returned (.bool true) ∧ OpB w' g { x with o := o })
theorem grown_go {w w1 w2 : World} {g : Nat} (h : w.grownBy w1 (some g)) (hb : Below w1.heap.size w1 w2) : w.grownBy w2 (some g) :=
  h.trans ⟨hb.os, hb.tape, hb.output, hb.size, fun k hk _ => hb.block k hk⟩
theorem grown_set {w w1 : World} {g : Nat} (h : w.grownBy w1 (some g)) (i : Nat) (v : Value) : w.grownBy (w1.setCell ⟨g, i, none⟩ v) (some g) :=
  h.trans ⟨rfl, rfl, rfl, by simp, fun k _ hk => cells_other (fun e => hk (by rw [e]))⟩


set_option maxRecDepth 20000 in
set_option maxHeartbeats 8000000 in
theorem fill_any {w : World} {g : Nat} {x : Opv} {A : Option Addr} {n c : Nat} {P : List Bs} (r : Road) (hr : r.p.length ≤ 1000) (hO : OpB w g x) (hS : Tg.Ss w A n c P) (hn : r.parts.length = n) (hp : ∀ p ∈ P, p.length ≤ 4096) (hA : ∀ q, blk A = some q → q ≠ g) (hm : Mx w) :
    Calls Tryd.prog 22 #[.agg (roadA r), .pointer (some ⟨g, 0, none⟩), .slice A n c] w (Filled x g (fillF r.parts P x.o) w) := by
  have HP := Lib.hid (fun W (hb : Below w.heap.size w W) => parts_any r hr W (hm.below hb))
  have hPl : P.length = n := by have := Rd.len hS; simpa using this
  have HPL := Lib.hid hPl
  obtain ⟨l, hl⟩ : ∃ l, r.parts = l := ⟨_, rfl⟩
  rw [hl] at HP hn ⊢
  have HN := Lib.hid hn
  have hnil := Rd.nil hS
  have hle := Rd.le hS
  have hmx := Rd.max hS
  unfold maxLen at hmx
  have hlt := hO.lt
  have HS := Lib.hid (fun W (hg : w.grownBy W (some g)) => Rd.grown hS hg (fun q hq e => hA q hq (Option.some.inj e).symm))
  have HPP := Lib.hid hp
  clear hm hPl hl hn hS hA hp
  go_enter Tryd.func22, Tryd.ntmps22
  go_upto_region 1 with (refine wpList_box rfl _ _ rfl (roadA r) rfl ?_; intro w1 hg1 hb1 hz1; clear hz1)
  go_wp2_with (refine wpList_load_all (by rfl) _ _ rfl w.heap.size rfl _ _ _ _ hg1 Tryd.underlying58 rfl (size_road r) ?_)
  rw [HN.out] at HP
  refine (HP.out _ hb1).mono ?_
  rintro e w2 ⟨B, rfl, hrd, hBg, hbl2⟩
  have hb2 := hb1.trans (hbl2.mono hb1.size)
  have hO2 := hO.below hb2
  have hgr2 : w.grownBy w2 (some g) := ⟨hb2.os, hb2.tape, hb2.output, hb2.size, fun k hk _ => hb2.block k hk⟩
  have hRD : ∀ W, w2.grownBy W (some g) → Rd W 1 B n n (l.map Tg.strV) := fun W hW => hrd.grown hW (fun q hq e => by have h1 := hBg q hq; have h2 := hb1.size; have := Option.some.inj e; omega)
  have HRD := Lib.hid hRD
  clear hg1 hb1 hbl2 HP hRD hBg hO
  have hnilB := hrd.nil
  go_wp2_with fail
  go_loopw [13] (fun i wr => ∃ (k : Nat) (o : OpR), k ≤ n ∧ i = .int .i64 k ∧ OpB wr g { x with o := o } ∧ w.grownBy wr (some g) ∧ w2.grownBy wr (some g) ∧ Hid (fillF l P x.o = fillF (l.drop k) (P.drop k) o)) (fun i _ => n - (intOf i).toNat)
  case atStart => exact ⟨0, x.o, by omega, rfl, hO2, hgr2, ⟨rfl, rfl, rfl, Nat.le_refl _, fun _ _ _ => rfl⟩, rfl⟩
  case round =>
    obtain ⟨k, o, hk, rfl, hOB, hgw, hg2, hF⟩ := hrel
    by_cases hkn : k < n
    · have hx : l[k]? = some (l[k]'(by rw [HN.out]; exact hkn)) := List.getElem?_eq_getElem _
      generalize l[k]'(by rw [HN.out]; exact hkn) = a at hx
      have hy : P[k]? = some (P[k]'(by rw [HPL.out]; exact hkn)) := List.getElem?_eq_getElem _
      generalize P[k]'(by rw [HPL.out]; exact hkn) = y at hy
      have hidx := run_index_rd (P := Tryd.prog) (A := B) (n := n) (c := n) Tg.es hnilB (Nat.le_refl _) k hkn
      have hidy := run_index_rd (P := Tryd.prog) (A := A) (n := n) (c := c) Tg.es hnil hle k hkn
      rw [Nat.mul_one] at hidx hidy
      have hcx := Rd.cell (HRD.out wr hg2) k (Tg.strV a) (by rw [List.getElem?_map, hx]; rfl)
      have hcy := Rd.cell (HS.out wr hgw) k (Tg.strV y) (by rw [List.getElem?_map, hy]; rfl)
      unfold Tg.strV at hcx hcy
      have hk' : (k : Int) < n := by omega
      have hyl := HPP.out y (List.mem_of_getElem? hy)
      have hsz := size_mk y
      have hstep : fillF l P x.o = (fillS a y o).bind (fillF (l.drop (k + 1)) (P.drop (k + 1))) := by rw [hF.out, fill_drop hx hy]
      have HST := Lib.hid hstep
      clear hx hy hstep hF hkn
      by_cases c1 : a = nmW
      · subst c1
        have hc1 := hOB.cTn
        have hf1 := hOB.free 1
        have hO3 : OpB (wr.setCell ⟨g, 1, none⟩ (.string ⟨y.toArray⟩)) g { x with o := { o with tn := y } } := hOB.setTn y
        have hgw3 := grown_set hgw 1 (.string ⟨y.toArray⟩)
        have hg23 := grown_set hg2 1 (.string ⟨y.toArray⟩)
        have hc3 := hO3.cTn
        dsimp only at hc3 hc1
        obtain ⟨b, hb⟩ : ∃ b, Nm.nameB ⟨y.toArray⟩ = b := ⟨_, rfl⟩
        have HM := Lib.hid (fun W => Nm.May_any ⟨y.toArray⟩ W)
        rw [hb] at HM
        have hs : fillS nmW y o = if b = true then some { o with tn := y } else none := by
          unfold fillS
          rw [if_pos rfl, hb]
        have hs2 := HST.out
        rw [hs] at hs2
        unfold nmW at hcx
        clear hs hb
        cases b
        · have HE : Hid (fillF l P x.o = none) := hs2
          clear hs2
          go_wp2_with fail
          refine (HM.out _).mono ?_
          rintro e w3 ⟨rfl, rfl⟩
          go_wp2_with fail
          go_ret
          exact ⟨hgw3, .inl ⟨HE.out, rfl⟩⟩
        · have HG : Hid (fillF l P x.o = fillF (l.drop (k + 1)) (P.drop (k + 1)) { o with tn := y }) := hs2
          clear hs2
          go_wp2_with fail
          refine (HM.out _).mono ?_
          rintro e w3 ⟨rfl, rfl⟩
          go_wp2_with fail
          go_roundw
          case rel => exact ⟨k + 1, _, by omega, by go_num, hO3, hgw3, hg23, HG⟩
          case measure => simp [intOf]; omega
      · have d1 : (a == [78, 65, 77, 69]) = false := by simpa [nmW] using c1
        by_cases c2 : a = hxW
        · subst c2
          obtain ⟨⟨R, E⟩, hV⟩ : ∃ r, Nm.idR ⟨y.toArray⟩ = r := ⟨_, rfl⟩
          have HM := Lib.hid (fun W => Nm.ID_any ⟨y.toArray⟩ (by rw [hsz]; omega) W)
          have hR := Nm.idR_len ⟨y.toArray⟩
          rw [hV] at HM hR
          dsimp only at HM hR
          have hs : fillS hxW y o = if E = 0 then some { o with of := R } else none := by
            unfold fillS
            rw [if_neg (by decide), if_pos rfl, hV]
          have hs2 := HST.out
          rw [hs] at hs2
          unfold hxW at hcx
          clear hs hV c1 d1
          by_cases hE : E = 0
          · subst hE
            have HG : Hid (fillF l P x.o = fillF (l.drop (k + 1)) (P.drop (k + 1)) { o with of := R }) := hs2
            clear hs2
            go_wp2_with fail
            refine (HM.out _).mono ?_
            rintro e w3 ⟨rfl, hbl3⟩
            have hOB3 := hOB.below hbl3
            have hgw3 := grown_go hgw hbl3
            have hg23 := grown_go hg2 hbl3
            go_wp2_with (refine wpList_store_of rfl _ _ rfl (g := g) rfl (R := R) rfl hR hOB3 ?_; intro w4 hO4 hgr4 hz4; clear hz4; have hgw4 := hgw3.trans hgr4; have hg24 := hg23.trans hgr4)
            go_roundw
            case rel => exact ⟨k + 1, _, by omega, by go_num, hO4, hgw4, hg24, HG⟩
            case measure => simp [intOf]; omega
          · have hE' : (E != 0) = true := by simpa using hE
            rw [if_neg hE] at hs2
            have HE : Hid (fillF l P x.o = none) := hs2
            clear hs2 hE
            go_wp2_with fail
            refine (HM.out _).mono ?_
            rintro e w3 ⟨rfl, hbl3⟩
            have hOB3 := hOB.below hbl3
            have hgw3 := grown_go hgw hbl3
            have hg23 := grown_go hg2 hbl3
            go_wp2_with (refine wpList_store_of rfl _ _ rfl (g := g) rfl (R := R) rfl hR hOB3 ?_; intro w4 hO4 hgr4 hz4; clear hz4; have hgw4 := hgw3.trans hgr4; have hg24 := hg23.trans hgr4)
            go_ret
            exact ⟨hgw4, .inl ⟨HE.out, rfl⟩⟩
        · have d2 : (a == [72, 69, 88]) = false := by simpa [hxW] using c2
          by_cases c3 : a = nrW
          · subst c3
            have hc1 := hOB.cNum
            have hf1 := hOB.free 34
            dsimp only at hc1
            obtain ⟨⟨V, E⟩, hV⟩ : ∃ r, Nm.numR ⟨y.toArray⟩ = r := ⟨_, rfl⟩
            have HM := Lib.hid (fun W => Nm.Number_any ⟨y.toArray⟩ (by rw [hsz]; omega) W)
            rw [hV] at HM
            dsimp only at HM
            have hO3 : OpB (wr.setCell ⟨g, 34, none⟩ (.int .i64 V)) g { x with o := { o with num := V } } := hOB.setNum V
            have hgw3 := grown_set hgw 34 (.int .i64 V)
            have hg23 := grown_set hg2 34 (.int .i64 V)
            have hs : fillS nrW y o = if E = 0 then some { o with num := V } else none := by
              unfold fillS
              rw [if_neg (by decide), if_neg (by decide), if_pos rfl, hV]
            have hs2 := HST.out
            rw [hs] at hs2
            unfold nrW at hcx
            clear hs hV c1 d1 c2 d2
            by_cases hE : E = 0
            · subst hE
              have HG : Hid (fillF l P x.o = fillF (l.drop (k + 1)) (P.drop (k + 1)) { o with num := V }) := hs2
              clear hs2
              go_wp2_with fail
              refine (HM.out _).mono ?_
              rintro e w3 ⟨rfl, rfl⟩
              go_wp2_with fail
              go_roundw
              case rel => exact ⟨k + 1, _, by omega, by go_num, hO3, hgw3, hg23, HG⟩
              case measure => simp [intOf]; omega
            · have hE' : (E != 0) = true := by simpa using hE
              rw [if_neg hE] at hs2
              have HE : Hid (fillF l P x.o = none) := hs2
              clear hs2 hE
              go_wp2_with fail
              refine (HM.out _).mono ?_
              rintro e w3 ⟨rfl, rfl⟩
              go_wp2_with fail
              go_ret
              exact ⟨hgw3, .inl ⟨HE.out, rfl⟩⟩
          · have d3 : (a == [78]) = false := by simpa [nrW] using c3
            have hs : fillS a y o = some o := by
              unfold fillS
              rw [if_neg c1, if_neg c2, if_neg c3]
            have hs2 := HST.out
            rw [hs] at hs2
            have HG : Hid (fillF l P x.o = fillF (l.drop (k + 1)) (P.drop (k + 1)) o) := hs2
            clear hs hs2 c1 c2 c3
            go_wp2_with fail
            go_roundw
            case rel => exact ⟨k + 1, o, by omega, by go_num, hOB, hgw, hg2, HG⟩
            case measure => simp [intOf]; omega
    · obtain rfl : k = n := by omega
      have hend : fillF l P x.o = some o := by
        rw [hF.out, List.drop_eq_nil_of_le (by rw [HN.out]; exact Nat.le_refl _)]
        rfl
      have HE := Lib.hid hend
      clear hkn hend hF
      go_wp2_with fail
      go_ret
      exact ⟨hgw, .inr ⟨o, HE.out, rfl, hOB⟩⟩

end Go.Proofs.YtaopohacelmglaaDoor

/-
  Package route: ask.
-/
namespace Go.Proofs.YtaopohacelmglaaDoor
open Go.RowKit

def Asked (q t : Bool) (Q : List Tg.Pm) (o0 : OpR) (k c : Nat) (o : OpR) : Prop := askF q t Q o0 = (askF q t (Q.drop k) o).map fun s => (s.1, c + s.2)
section
variable {q t : Bool} {Q : List Tg.Pm} {o0 o o' : OpR} {k c d : Nat} {p : Tg.Pm}
theorem asked_start : Asked q t Q o0 0 0 o0 := by
  unfold Asked
  rw [List.drop_zero]
  cases askF q t Q o0 <;> simp
theorem ask_drop (hx : Q[k]? = some p) (o : OpR) : askF q t (Q.drop k) o = (askS q t p o).bind fun r => (askF q t (Q.drop (k + 1)) r.1).map fun s => (s.1, r.2 + s.2) := by
  obtain ⟨h1, e1⟩ := List.getElem?_eq_some_iff.1 hx
  rw [List.drop_eq_getElem_cons h1, e1]
  rfl
theorem asked_some (h : Asked q t Q o0 k c o) (hx : Q[k]? = some p) (hs : askS q t p o = some (o', d)) : Asked q t Q o0 (k + 1) (c + d) o' := by
  unfold Asked at h ⊢
  rw [h, ask_drop hx, hs]
  simp only [Option.bind_some, Option.map_map]
  congr 1
  funext s
  simp [Nat.add_assoc]
theorem asked_none (h : Asked q t Q o0 k c o) (hx : Q[k]? = some p) (hs : askS q t p o = none) : askR q t Q o0 = none := by
  unfold askR
  unfold Asked at h
  rw [h, ask_drop hx, hs]
  rfl
theorem asked_end (h : Asked q t Q o0 Q.length c o) : askR q t Q o0 = if c = mustN q t then some o else none := by
  unfold askR
  unfold Asked at h
  rw [h, List.drop_eq_nil_of_le (Nat.le_refl _)]
  rfl
end


theorem askS_qu (z : Bs) (o : OpR) : askS true false (quW, z) o = if (Nm.numR ⟨z.toArray⟩).2 = 0 then some ({ o with num := (Nm.numR ⟨z.toArray⟩).1 }, 1) else none := by
  unfold askS
  rw [if_pos (show (true && quW == quW) = true by decide)]
theorem askS_qno {y : Bs} (h : (y == quW) = false) (z : Bs) (o : OpR) : askS true false (y, z) o = none := by
  unfold askS
  simp [h]
theorem askS_ri (z : Bs) (o : OpR) : askS false true (riW, z) o = if (Rt.parseP z 16 0).2 = 0 then some ({ o with rts := (Rt.parseP z 16 0).1 }, 1) else none := by
  unfold askS
  rw [if_neg (show ¬ (false && riW == quW) = true by decide), if_pos (show (true && riW == riW) = true by decide)]
theorem askS_un (z : Bs) (o : OpR) : askS false true (unW, z) o = if (Nm.numR ⟨z.toArray⟩).2 = 0 then some ({ o with til := (Nm.numR ⟨z.toArray⟩).1 }, 1) else none := by
  unfold askS
  rw [if_neg (show ¬ (false && unW == quW) = true by decide), if_neg (show ¬ (true && unW == riW) = true by decide), if_pos (show (true && unW == unW) = true by decide)]
theorem askS_te (z : Bs) (o : OpR) : askS false true (teW, z) o = if Nm.nameB ⟨z.toArray⟩ = true then some ({ o with tn := z }, 0) else none := by
  unfold askS
  rw [if_neg (show ¬ (false && teW == quW) = true by decide), if_neg (show ¬ (true && teW == riW) = true by decide), if_neg (show ¬ (true && teW == unW) = true by decide)]
  show (if (true && teW == teW && Nm.nameB ⟨z.toArray⟩) = true then _ else _) = _
  rw [show (true && teW == teW) = true by decide, Bool.true_and]
theorem askS_tno {y : Bs} (h1 : (y == riW) = false) (h2 : (y == unW) = false) (h3 : (y == teW) = false) (z : Bs) (o : OpR) : askS false true (y, z) o = none := by
  unfold askS
  simp [h1, h2, h3]
theorem road_on {w1 W : World} {g G : Nat} {cs : Array Value} {t : TypeId} {fr : Nat × Nat} (hg1 : w1.heap[G]? = some (.cells cs t fr)) (h : w1.grownBy W (some g)) (hne : g ≠ G) : W.heap[G]? = some (.cells cs t fr) :=
  (h.block G (Array.getElem?_eq_some_iff.1 hg1).1 (fun e => hne (Option.some.inj e).symm)).trans hg1

set_option maxRecDepth 20000 in
set_option maxHeartbeats 8000000 in
theorem ask_n {w : World} {g : Nat} {x : Opv} {A : Option Addr} {n c : Nat} {Q : List Tg.Pm} (m p : Bs) (d : Nat) (b : Bool) (hO : OpB w g x) (hQ : Tg.Ps w A n c Q) (hn : n ≤ 1048577) :
    Calls Tryd.prog 23 #[.agg (roadA ⟨m, p, d, b, false, false⟩), .pointer (some ⟨g, 0, none⟩), .slice A n c] w (Filled x g (askR false false Q x.o) w) := by
  have HQL := Lib.hid hQ.len
  have HQ := Lib.hid hQ
  clear hQ
  have hlt := hO.lt
  go_enter Tryd.func23, Tryd.ntmps23
  go_upto_region 1 with (refine wpList_box rfl _ _ rfl (roadA ⟨m, p, d, b, false, false⟩) rfl ?_; intro w1 hg1 hb1 hz1; clear hz1)
  have hc4 : w1.cell? ⟨w.heap.size, 4, none⟩ = some (.bool false) := (cell_road hg1).2.2.2.2.1
  have hc5 : w1.cell? ⟨w.heap.size, 5, none⟩ = some (.bool false) := (cell_road hg1).2.2.2.2.2
  have hO1 := hO.below hb1
  have hgr1 : w.grownBy w1 (some g) := ⟨hb1.os, hb1.tape, hb1.output, hb1.size, fun k hk _ => hb1.block k hk⟩
  go_wp2_with fail
  go_loopw [7, 17] (fun mv iv wr => mv = .int .i64 0 ∧ iv = .int .i64 0 ∧ w1 = wr) (fun _ _ _ => 0)
  case atStart => exact ⟨rfl, rfl, rfl⟩
  case round =>
    obtain ⟨rfl, rfl, rfl⟩ := hrel
    by_cases hkn : 0 < n
    · have hx : Q[0]? = some (Q[0]'(by rw [HQL.out]; exact hkn)) := List.getElem?_eq_getElem _
      generalize Q[0]'(by rw [HQL.out]; exact hkn) = q at hx
      have hQr := HQ.out.below hb1
      have hidx : ∀ W, (Instr.indexAt 49 (.slice A n c) (.int .i64 0)).run Tryd.prog W = .ok (.pointer (some (at_ A (0 * 2)))) W := fun W => hQr.idx hkn W
      have HLD := Lib.hid (hQr.load hx)
      have hk' : (0 : Int) < n := by omega
      have HE := Lib.hid (asked_none (q := false) (t := false) (asked_start (o0 := x.o)) hx (by unfold askS; rfl))
      obtain ⟨y, z⟩ := q
      dsimp only at HLD
      have hbox : ∀ W, Below w1.heap.size w1 W → W.cell? ⟨w.heap.size, 4, none⟩ = some (.bool false) ∧ W.cell? ⟨w.heap.size, 5, none⟩ = some (.bool false) := fun W hW => by
        have h := (hW.block w.heap.size (Array.getElem?_eq_some_iff.1 hg1).1).trans hg1
        exact ⟨(cell_road h).2.2.2.2.1, (cell_road h).2.2.2.2.2⟩
      clear hkn hx hQr
      have hz1 : n ≠ 0 := by omega
      go_wp2_with (first
          | (refine wpList_load_run rfl _ _ rfl _ rfl _ HLD.out ?_)
          | (refine wpList_alloc_zero rfl _ rfl (Tg.prA [] []) Tg.zero_pr ?_; intro w4 hg4 hb4 hz4; clear hz4)
          | (refine wpList_store_all rfl _ _ _ rfl w1.heap.size rfl _ _ _ rfl hg4 (Tg.size_pr _ _) rfl (Tg.pr_one _ _) ?_; intro w5 hg5 hgr5 hz5; clear hz5; have hb5 : Below w1.heap.size w1 w5 := hb4.grown hgr5 hb4.size (fun g hg => (by obtain rfl := Option.some.inj hg; exact Nat.le_refl _)); have hd0 := (Tg.cell_pr hg5).1; have hd1 := (Tg.cell_pr hg5).2; have he4 := (hbox w5 hb5).1; have he5 := (hbox w5 hb5).2))
      go_ret
      exact ⟨grown_go hgr1 hb5, .inl ⟨HE.out, rfl⟩⟩
    · obtain rfl : n = 0 := by omega
      have HE : Hid (askR false false Q x.o = some x.o) := by
        show _ = _
        rw [List.eq_nil_of_length_eq_zero HQL.out]
        rfl
      go_wp2_with fail
      go_ret
      exact ⟨hgr1, .inr ⟨_, HE.out, rfl, hO1⟩⟩

end Go.Proofs.YtaopohacelmglaaDoor

/-
  Package route: ask of a road that wants a quota.
-/
namespace Go.Proofs.YtaopohacelmglaaDoor
open Go.RowKit

set_option maxRecDepth 20000 in
set_option maxHeartbeats 8000000 in
theorem ask_q {w : World} {g : Nat} {x : Opv} {A : Option Addr} {n cc : Nat} {Q : List Tg.Pm} (m p : Bs) (d : Nat) (b : Bool) (hO : OpB w g x) (hQ : Tg.Ps w A n cc Q) (hn : n ≤ 1048577) (hp : ∀ r ∈ Q, r.2.length ≤ 4096) (hA : ∀ q, blk A = some q → q ≠ g) :
    Calls Tryd.prog 23 #[.agg (roadA ⟨m, p, d, b, true, false⟩), .pointer (some ⟨g, 0, none⟩), .slice A n cc] w (Filled x g (askR true false Q x.o) w) := by
  have HQL := Lib.hid hQ.len
  have HQ := Lib.hid (fun W (hg : w.grownBy W (some g)) => (Rd.grown hQ hg (fun q hq e => hA q hq (Option.some.inj e).symm) : Tg.Ps W A n cc Q))
  have HPP := Lib.hid hp
  clear hQ hp hA
  have hlt := hO.lt
  go_enter Tryd.func23, Tryd.ntmps23
  go_upto_region 1 with (refine wpList_box rfl _ _ rfl (roadA ⟨m, p, d, b, true, false⟩) rfl ?_; intro w1 hg1 hb1 hz1; clear hz1)
  have hc4 : w1.cell? ⟨w.heap.size, 4, none⟩ = some (.bool true) := (cell_road hg1).2.2.2.2.1
  have hc5 : w1.cell? ⟨w.heap.size, 5, none⟩ = some (.bool false) := (cell_road hg1).2.2.2.2.2
  have hO1 := hO.below hb1
  have hgr1 : w.grownBy w1 (some g) := ⟨hb1.os, hb1.tape, hb1.output, hb1.size, fun k hk _ => hb1.block k hk⟩
  clear hO
  go_wp2_with fail
  go_loopw [7, 17] (fun mv iv wr => ∃ (k c : Nat) (M : Int) (o : OpR), k ≤ n ∧ c ≤ k ∧ M = 1 - c ∧ mv = .int .i64 M ∧ iv = .int .i64 k ∧ OpB wr g { x with o := o } ∧ w.grownBy wr (some g) ∧ w1.grownBy wr (some g) ∧ Hid (Asked true false Q x.o k c o)) (fun _ iv _ => n - (intOf iv).toNat)
  case atStart => exact ⟨0, 0, 1, x.o, by omega, by omega, by omega, rfl, rfl, hO1, hgr1, ⟨rfl, rfl, rfl, Nat.le_refl _, fun _ _ _ => rfl⟩, asked_start⟩
  case round =>
    obtain ⟨k, c, M, o, hk, hck, hM, rfl, rfl, hOB, hgw, hg2, hF⟩ := hrel
    by_cases hkn : k < n
    · have hx : Q[k]? = some (Q[k]'(by rw [HQL.out]; exact hkn)) := List.getElem?_eq_getElem _
      generalize Q[k]'(by rw [HQL.out]; exact hkn) = r at hx
      have hQr : Tg.Ps wr A n cc Q := HQ.out wr hgw
      have hidx := fun W => hQr.idx hkn W
      have HLD := Lib.hid (hQr.load hx)
      have hk' : (k : Int) < n := by omega
      have hM1 : -1048577 ≤ M := by omega
      have hM2 : M ≤ 1 := by omega
      obtain ⟨y, z⟩ := r
      dsimp only at HLD
      have hzl := HPP.out _ (List.mem_of_getElem? hx)
      dsimp only at hzl
      have hszz := size_mk z
      have hbox : ∀ W, Below wr.heap.size wr W → W.cell? ⟨w.heap.size, 4, none⟩ = some (.bool true) ∧ W.cell? ⟨w.heap.size, 5, none⟩ = some (.bool false) := fun W hW => by
        have h := road_on hg1 (grown_go hg2 hW) (by omega)
        exact ⟨(cell_road h).2.2.2.2.1, (cell_road h).2.2.2.2.2⟩
      clear hkn hQr
      by_cases c1 : y = quW
      · subst c1
        obtain ⟨⟨V, E⟩, hV⟩ : ∃ r, Nm.numR ⟨z.toArray⟩ = r := ⟨_, rfl⟩
        have HM := Lib.hid (fun W => Nm.Number_any ⟨z.toArray⟩ (by rw [hszz]; omega) W)
        rw [hV] at HM
        dsimp only at HM
        have hs := askS_qu z o
        rw [hV] at hs
        dsimp only at hs
        unfold quW at HLD
        clear hV 
        by_cases hE : E = 0
        · subst hE
          have HA := Lib.hid (asked_some hF.out hx (hs.trans (if_pos rfl)))
          clear hs hx hF
          go_wp2_with (first
                  | (refine wpList_load_run rfl _ _ rfl _ rfl _ HLD.out ?_)
                  | (refine wpList_alloc_zero rfl _ rfl (Tg.prA [] []) Tg.zero_pr ?_; intro w4 hg4 hb4 hz4; clear hz4)
                  | (refine wpList_store_all rfl _ _ _ rfl wr.heap.size rfl _ _ _ rfl hg4 (Tg.size_pr _ _) rfl (Tg.pr_one _ _) ?_; intro w5 hg5 hgr5 hz5; clear hz5; have hb5 : Below wr.heap.size wr w5 := hb4.grown hgr5 hb4.size (fun g hg => (by obtain rfl := Option.some.inj hg; exact Nat.le_refl _)); have hd0 := (Tg.cell_pr hg5).1; have hd1 := (Tg.cell_pr hg5).2; have he4 := (hbox w5 hb5).1; have he5 := (hbox w5 hb5).2; have hO5 := hOB.below hb5; have hgw5 := grown_go hgw hb5; have hg25 := grown_go hg2 hb5; have hf5 := hO5.free 34; have hc5 := hO5.cNum; have hO6 := hO5.setNum V; have hgw6 := grown_set hgw5 34 (.int .i64 V); have hg26 := grown_set hg25 34 (.int .i64 V); clear hg4 hb4 hgr5))
          refine (HM.out _).mono ?_
          rintro e w3 ⟨rfl, rfl⟩
          go_wp2_with fail
          go_roundw
          case rel => exact ⟨k + 1, c + 1, M - 1, _, by omega, by omega, by omega, by go_num, by go_num, hO6, hgw6, hg26, HA⟩
          case measure => simp [intOf]; omega
        · have hE' : (E != 0) = true := by simpa using hE
          have HE := Lib.hid (asked_none hF.out hx (hs.trans (if_neg hE)))
          clear hs hx hF hE
          go_wp2_with (first
                  | (refine wpList_load_run rfl _ _ rfl _ rfl _ HLD.out ?_)
                  | (refine wpList_alloc_zero rfl _ rfl (Tg.prA [] []) Tg.zero_pr ?_; intro w4 hg4 hb4 hz4; clear hz4)
                  | (refine wpList_store_all rfl _ _ _ rfl wr.heap.size rfl _ _ _ rfl hg4 (Tg.size_pr _ _) rfl (Tg.pr_one _ _) ?_; intro w5 hg5 hgr5 hz5; clear hz5; have hb5 : Below wr.heap.size wr w5 := hb4.grown hgr5 hb4.size (fun g hg => (by obtain rfl := Option.some.inj hg; exact Nat.le_refl _)); have hd0 := (Tg.cell_pr hg5).1; have hd1 := (Tg.cell_pr hg5).2; have he4 := (hbox w5 hb5).1; have he5 := (hbox w5 hb5).2; have hO5 := hOB.below hb5; have hgw5 := grown_go hgw hb5; have hg25 := grown_go hg2 hb5; have hf5 := hO5.free 34; have hc5 := hO5.cNum; have hO6 := hO5.setNum V; have hgw6 := grown_set hgw5 34 (.int .i64 V); have hg26 := grown_set hg25 34 (.int .i64 V); clear hg4 hb4 hgr5))
          refine (HM.out _).mono ?_
          rintro e w3 ⟨rfl, rfl⟩
          go_wp2_with fail
          go_ret
          exact ⟨hgw6, .inl ⟨HE.out, rfl⟩⟩
      · have d1 : (y == [113, 117, 111, 116, 97]) = false := by simpa [quW] using c1
        have HE := Lib.hid (asked_none hF.out hx (askS_qno d1 z o))
        clear c1 hx hF
        go_wp2_with (first
          | (refine wpList_load_run rfl _ _ rfl _ rfl _ HLD.out ?_)
          | (refine wpList_alloc_zero rfl _ rfl (Tg.prA [] []) Tg.zero_pr ?_; intro w4 hg4 hb4 hz4; clear hz4)
          | (refine wpList_store_all rfl _ _ _ rfl wr.heap.size rfl _ _ _ rfl hg4 (Tg.size_pr _ _) rfl (Tg.pr_one _ _) ?_; intro w5 hg5 hgr5 hz5; clear hz5; have hb5 : Below wr.heap.size wr w5 := hb4.grown hgr5 hb4.size (fun g hg => (by obtain rfl := Option.some.inj hg; exact Nat.le_refl _)); have hd0 := (Tg.cell_pr hg5).1; have hd1 := (Tg.cell_pr hg5).2; have he4 := (hbox w5 hb5).1; have he5 := (hbox w5 hb5).2; have hO5 := hOB.below hb5; have hgw5 := grown_go hgw hb5; have hg25 := grown_go hg2 hb5; clear hg4 hb4 hgr5))
        go_ret
        exact ⟨hgw5, .inl ⟨HE.out, rfl⟩⟩
    · obtain rfl : k = n := by omega
      have hq := hF.out
      rw [← HQL.out] at hq
      have hend := asked_end hq
      rw [show mustN true false = 1 from rfl] at hend
      clear hq hF hkn
      by_cases hc0 : c = 1
      · rw [if_pos hc0] at hend
        have HE := Lib.hid hend
        obtain rfl : M = 0 := by omega
        clear hend hM hc0
        go_wp2_with fail
        go_ret
        exact ⟨hgw, .inr ⟨o, HE.out, rfl, hOB⟩⟩
      · rw [if_neg hc0] at hend
        have HE := Lib.hid hend
        have hM0 : (M == 0) = false := by
          rw [beq_eq_false_iff_ne]
          omega
        clear hend hM hc0
        go_wp2_with fail
        go_ret
        exact ⟨hgw, .inl ⟨HE.out, rfl⟩⟩

end Go.Proofs.YtaopohacelmglaaDoor
