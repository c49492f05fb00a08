/-
  Joined texts of this claim's author (each began as a text of its own; each says itself what it holds).
-/
import Derived.Test.YtaopohacelmglaaDoorG07
import Derived.Test.YtaopohacelmglaaDoorG03
import Derived.Deep.Strs
import Derived.HandedShaped
import Derived.LaidMore
import Derived.Test.YtaopohacelmglaaDoorG09
import Derived.Test.YtaopohacelmglaaDoorG12
import Derived.Test.YtaopohacelmglaaDoorG04
set_option linter.unusedVariables false
set_option linter.unusedSimpArgs false

/-
  How a request that came in is opened.
-/
namespace Go.Proofs.YtaopohacelmglaaDoor
open Go.ChangeShapes Go.WideShapes Go.ChangeAt Go.RowKit Go.Deep

theorem len_max {s : ByteArray} (h : s.size ≤ maxLen) : s.data.toList.length ≤ 9223372036854775807 := by
  rw [show s.data.toList.length = s.size by simp]
  exact Nat.le_trans h (by decide)
theorem cells_rqq : Tryd.prog.cellsOf 25 = 5 := by kernel_rfl
theorem cells_strq : Tryd.prog.cellsOf 9 = 1 := by kernel_rfl
theorem cells_fdq : Tryd.prog.cellsOf 41 = 2 := by kernel_rfl
theorem cells_fdsq : Tryd.prog.cellsOf 22 = 1 := by kernel_rfl
theorem cells_bsq : Tryd.prog.cellsOf 23 = 1 := by kernel_rfl
theorem cells_boolq : Tryd.prog.cellsOf 4 = 1 := by kernel_rfl
theorem cells_byteq : Tryd.prog.cellsOf 5 = 1 := by kernel_rfl
theorem flds_of {H : Type} {enc : TypeId × Value → H} {w : World} {fuel : Nat} {cs : List Value} {x : DataW H × List MemPlace}
    (hf : DataW.trod enc Tryd.prog w 0 (fun _ => true) true fuel 22 cs = some x) : ∃ (A : Option Addr) (n c : Nat) (fs : List Fl.Fd), cs = [.slice A n c] ∧ Fl.Fds w A n c fs ∧ ∀ (j : Nat) f, fs[j]? = some f → f.1.length ≤ 9223372036854775807 ∧ f.2.length ≤ 9223372036854775807 := by
  rcases open_slice_pairs Tryd.underlying22 Tryd.underlying41 cells_fdq rfl rfl cells_strq cells_strq hf with ⟨hcs, _⟩ | ⟨x, l, c, m, n, V0, V1, D0, D1, P0, P1, hcs, _, hl, hm, hmm, _, hel⟩
  · exact ⟨none, 0, 0, [], hcs, Rd.nil_ w 2, fun j f h => by simp at h⟩
  · obtain ⟨ll, hll, hq⟩ := choose_list (Q := fun i (y : Fl.Fd) => (w.cell? (at_ (some x) (i * 2)) = some (Fl.strV y.1) ∧ w.cell? (at_ (some x) (i * 2 + 1)) = some (Fl.strV y.2)) ∧ y.1.length ≤ 9223372036854775807 ∧ y.2.length ≤ 9223372036854775807) l fun i hi => by
      obtain ⟨h0, h1, t0, t1⟩ := hel i (by simp at hmm; omega)
      obtain ⟨s0, e0, _, z0⟩ := DataW.trod_string Tryd.underlying9 t0
      obtain ⟨s1, e1, _, z1⟩ := DataW.trod_string Tryd.underlying9 t1
      have e0' : V0 i = .string s0 := by simpa using e0
      have e1' : V1 i = .string s1 := by simpa using e1
      rw [e0'] at h0
      rw [e1'] at h1
      refine ⟨(s0.data.toList, s1.data.toList), ⟨?_, ?_⟩, len_max z0, len_max z1⟩
      · rw [at_some, h0]
        cases s0
        simp [Fl.strV]
      · rw [at_some, h1]
        cases s1
        simp [Fl.strV]
    refine ⟨some x, l, c, ll, hcs, ⟨by rw [Fl.fdL_len, hll], hl, hm, (fun h => by cases h), fun j v hv => ?_⟩, fun j f hj => (hq j f hj).2⟩
    have hjl : j < ll.length * 2 := by rw [← Fl.fdL_len]; exact (List.getElem?_eq_some_iff.1 hv).1
    have hi : j / 2 < ll.length := by omega
    have hx : ll[j / 2]? = some ll[j / 2] := List.getElem?_eq_getElem hi
    obtain ⟨a0, a1⟩ := Fl.fdL_at ll _ _ hx
    obtain ⟨⟨b0, b1⟩, _⟩ := hq _ _ hx
    by_cases hj : j % 2 = 0
    · have e : j = j / 2 * 2 := by omega
      rw [e] at hv ⊢
      rw [a0] at hv
      obtain rfl := Option.some.inj hv
      exact b0
    · have e : j = j / 2 * 2 + 1 := by omega
      rw [e] at hv ⊢
      rw [a1] at hv
      obtain rfl := Option.some.inj hv
      exact b1
/-- A request in memory, whatever its size. -/
structure RqAny (w : World) (r : Req) : Prop where
  fs : Fl.Fds w r.A r.n r.c r.fs
  bd : Rd w 1 r.B r.k r.d (r.bd.map b8)
  m : r.m.length ≤ 9223372036854775807
  t : r.t.length ≤ 9223372036854775807
  f : ∀ (j : Nat) f, r.fs[j]? = some f → f.1.length ≤ 9223372036854775807 ∧ f.2.length ≤ 9223372036854775807
set_option maxRecDepth 20000 in
theorem open_rq {H : Type} {enc : TypeId × Value → H} {w : World} {r : Reach} {b0 : Nat} {v : Value} {d : DataW H} {p : List MemPlace}
    (hv : Value.okWide Tryd.prog w r b0 25 v) (h : DataW.Trod enc Tryd.prog w 0 (fun _ => true) true 25 v d p) :
    ∃ q : Req, v = .agg (rqA q) ∧ RqAny w q := by
  obtain ⟨cs, rfl, hsz⟩ := okWide_struct Tryd.underlying25 hv
  obtain ⟨fuel, hf⟩ := h
  obtain ⟨xs, n, _, _, hl, hlen, hx⟩ := DataW.trod_struct Tryd.underlying25 hf
  rw [cells_rqq] at hl hsz
  have hlen' : xs.length = 5 := by rw [hlen]; rfl
  match xs, hlen' with
  | [y0, y1, y2, y3, y4], _ =>
    obtain ⟨ls⟩ := cs
    simp only [Value.cells] at hl
    have hls : ls.length = 5 := by simpa using hl
    match ls, hls with
    | [c0, c1, c2, c3, c4], _ =>
      have h0 : DataW.trod enc Tryd.prog w 0 (fun _ => true) true n 9 (([c0, c1, c2, c3, c4].drop 0).take (Tryd.prog.cellsOf 9)) = some y0 := hx 0 _ rfl
      have h1 : DataW.trod enc Tryd.prog w 0 (fun _ => true) true n 9 (([c0, c1, c2, c3, c4].drop 1).take (Tryd.prog.cellsOf 9)) = some y1 := hx 1 _ rfl
      have h2 : DataW.trod enc Tryd.prog w 0 (fun _ => true) true n 22 (([c0, c1, c2, c3, c4].drop 2).take (Tryd.prog.cellsOf 22)) = some y2 := hx 2 _ rfl
      have h3 : DataW.trod enc Tryd.prog w 0 (fun _ => true) true n 23 (([c0, c1, c2, c3, c4].drop 3).take (Tryd.prog.cellsOf 23)) = some y3 := hx 3 _ rfl
      have h4 : DataW.trod enc Tryd.prog w 0 (fun _ => true) true n 4 (([c0, c1, c2, c3, c4].drop 4).take (Tryd.prog.cellsOf 4)) = some y4 := hx 4 _ rfl
      simp only [cells_strq, cells_fdsq, cells_bsq, cells_boolq, List.drop_zero, List.drop_succ_cons, List.take_succ_cons, List.take_zero] at h0 h1 h2 h3 h4
      obtain ⟨s0, e0, _, z0⟩ := DataW.trod_string Tryd.underlying9 h0
      obtain ⟨s1, e1, _, z1⟩ := DataW.trod_string Tryd.underlying9 h1
      obtain ⟨A, n, c, fs, e2, hfs, hfm⟩ := flds_of h2
      obtain ⟨row, e3, hr⟩ := row_of Tryd.underlying23 Tryd.underlying5 cells_byteq h3
      obtain ⟨b, e4, _⟩ := DataW.trod_bool Tryd.underlying4 h4
      refine ⟨⟨s0.data.toList, s1.data.toList, A, n, c, fs, row.A, row.n, row.c, row.l, b⟩, ?_, ⟨hfs, hr, len_max z0, len_max z1, hfm⟩⟩
      congr 1
      unfold rqA
      congr 1
      simp at e0 e1 e2 e3 e4
      rw [e0, e1, e2, e3, e4]
      cases s0
      cases s1
      rfl

end Go.Proofs.YtaopohacelmglaaDoor

/-
  The plain wrap with both: the laid fact of the row, and the world's shape.
-/
namespace Go.Proofs.YtaopohacelmglaaDoor
open Go

theorem returns_of_both {H : Type} {enc : TypeId × Value → H} {a : Assume} {C : Checked} {os : Os} {f : FuncId} {fn : Func} {s : ChangeSpec} {conds : List PathCond} {apart fresh handsOn again : Bool} {X : World → Array Value → Prop}
    (hX : ∀ (w w' : World) (args : Array Value), w.heap = w'.heap → X w args → X w' args)
    (own : ownKnob C.prog.godebug = none) (started : os.Started) (noInit : C.prog.inits.idxOf? f = none) (hfn : C.prog.funcs[f]? = some fn)
    (witness : ∃ (w : World) (tape : Tape) (i : Input), w.os = os ∧ (w.forCall tape i).Shaped C.prog ∧ i.vars = [] ∧ Input.okWide C.prog (w.forCall tape i) .any w.heap.size f i ∧
      ((s.pre enc C.prog fn conds apart (w.forCall tape i).memory i.args ∧ X (w.forCall tape i).memory i.args) ∧ sizedMet enc C.prog fn (OpenSpec.ofChange s) apart (w.forCall tape i).memory i.args) ∧ a.holds C.prog (lone (Frame.enter C.prog f i.args .normal) [] (w.forCall tape i)))
    (contract : ∀ (W : World) (base : Nat) (args : Array Value) (ds gs : List (DataW H)) (before : List MemPlace),
      (∀ (j : Nat) t v, fn.params[j]? = some t → args[j]? = some v → Value.okWide C.prog W .any base t v) →
      DataW.Whole enc C.prog fn.params.toList s.vars apart W args.toList ds gs before →
      X W args → W.ShapedOpen C.prog →
      Calls C.prog f args W fun e W' => ∃ v, e = .returned v ∧ s.post enc C.prog fn apart fresh handsOn again W args v W') :
    ReturnsInHanded a C os f .any (fun w args => (s.pre enc C.prog fn conds apart w args ∧ X w args) ∧ sizedMet enc C.prog fn (OpenSpec.ofChange s) apart w args) (s.post enc C.prog fn apart fresh handsOn again) := by
  refine returnsInHanded_of_calls own started noInit witness ?_
  intro w tape i _ hsh _ hok hpre hholds
  obtain ⟨_, _, _, fn', hfn', _, _, _, _, hval⟩ := hok
  have e : fn' = fn := Option.some.inj (hfn'.symm.trans hfn)
  subst e
  obtain ⟨⟨⟨ds, gs, before, hw, hc⟩, hx⟩, hz⟩ := hpre
  have hw' := DataW.Whole.of_heap (w' := w.forCall tape i) (by rfl) hw
  refine (contract (w.forCall tape i) w.heap.size i.args ds gs before hval hw' (hX _ _ _ (by rfl) hx) hsh).mono fun e W' ⟨v, he, hp⟩ => ?_
  subst he
  exact ChangeSpec.post_blind hp

end Go.Proofs.YtaopohacelmglaaDoor

/-
  The walk of RouteTo.
-/
namespace Go.Proofs.YtaopohacelmglaaDoor
open Go.RowKit

def rqZ : Req := ⟨[], [], none, 0, 0, [], none, 0, 0, [], false⟩
theorem zero_rq : (Tryd.prog.info? 25).map (·.zero) = some (some (.agg (rqA rqZ))) := by kernel_rfl
theorem size_rq0 : (Tryd.prog.info? 25).map (·.size) = some 5 := by kernel_rfl
theorem size_rq (r : Req) : (Tryd.prog.info? 25).map (·.size) = some (rqA r).size := size_rq0
theorem rq_one (r : Req) : ∀ v ∈ (rqA r).toList, v.oneCell' = true := by
  intro v hv
  simp only [rqA, List.mem_cons, List.not_mem_nil, or_false] at hv
  rcases hv with rfl | rfl | rfl | rfl | rfl <;> rfl
theorem OpB.rdDraw {w : World} {g : Nat} {x : Opv} (h : OpB w g x) : Rd w 1 (some ⟨g, 40, none⟩) 32 32 (zid.map b8) := by
  refine ⟨by simp [zid_len], Nat.le_refl _, by decide, (fun h => by cases h), fun j u hu => ?_⟩
  have e : at_ (some (⟨g, 40, none⟩ : Addr)) j = ⟨g, 34 + (6 + j), none⟩ := by
    rw [at_some]
    unfold Addr.add
    split <;> simp_all <;> omega
  rw [e]
  refine h.cTail ?_
  unfold opT
  rw [show 6 + j = j + 1 + 1 + 1 + 1 + 1 + 1 by omega]
  simp only [List.getElem?_cons_succ]
  exact hu
theorem rd_max {w : World} {A : Option Addr} {n c : Nat} {xs : List Value} (h : Rd w 1 A n c xs) : n ≤ 9223372036854775807 := Nat.le_trans h.le (Nat.le_trans h.max (by decide))
theorem said_both {R : Option (Road × OpR) × Nat} {tk bd : Bs} {b1 b2 : Nat} {w1 w2 : World} {x y : Opv} (hx0 : R.1 = none → x = opvZ) (hy0 : R.1 = none → y = opvZ)
    (hx : ∀ r o, R.1 = some (r, o) → x.d = r.d ∧ x.o = o ∧ Own w1 b1 5 1 x.bA x.bn x.bc ((if r.b then bd else []).map b8) ∧ Own w1 b1 5 1 x.tA x.tn x.tc (tk.map b8))
    (hy : ∀ r o, R.1 = some (r, o) → y.d = r.d ∧ y.o = o ∧ Own w2 b2 5 1 y.bA y.bn y.bc ((if r.b then bd else []).map b8) ∧ Own w2 b2 5 1 y.tA y.tn y.tc (tk.map b8)) :
    ∃ (bl tl : Bs), y.d = x.d ∧ y.o = x.o ∧ Own w1 b1 5 1 x.bA x.bn x.bc (bl.map b8) ∧ Own w1 b1 5 1 x.tA x.tn x.tc (tl.map b8) ∧ Own w2 b2 5 1 y.bA y.bn y.bc (bl.map b8) ∧ Own w2 b2 5 1 y.tA y.tn y.tc (tl.map b8) := by
  cases hR : R.1 with
  | none =>
    obtain rfl := hx0 hR
    obtain rfl := hy0 hR
    exact ⟨[], [], rfl, rfl, Own.nil_ _ _ _ _, Own.nil_ _ _ _ _, Own.nil_ _ _ _ _, Own.nil_ _ _ _ _⟩
  | some p =>
    obtain ⟨r, o⟩ := p
    obtain ⟨h1, h2, h3, h4⟩ := hx r o hR
    obtain ⟨g1, g2, g3, g4⟩ := hy r o hR
    exact ⟨_, _, g1.trans h1.symm, g2.trans h2.symm, h3, h4, g3, g4⟩

set_option maxRecDepth 20000 in
set_option maxHeartbeats 8000000 in
theorem routeTo_walk {w : World} (hm : Mx w) (r : Req) (h : RqAny w r) :
    Calls Tryd.prog 3 #[.agg (rqA r)] w fun e w' => e = .returned (.bool true) ∧ Below w.heap.size w w' := by
  have HM := Lib.hid (fun W (hb : Below w.heap.size w W) => hm.below hb)
  have HQ := Lib.hid h
  clear hm h
  go_enter Tryd.func3, Tryd.ntmps3
  go_upto_region 1 with (refine wpList_box rfl _ _ rfl (rqA r) rfl ?_; intro w1 hg1 hb1 hz1; clear hz1)
  go_wp2_with fail
  refine (begun_any _ (HM.out _ hb1)).mono ?_
  rintro e w2 ⟨rfl, hbl2⟩
  have hb2 := hb1.trans (hbl2.mono hb1.size)
  have hg2 := obj_on hg1 hbl2
  clear hg1 hb1 hbl2
  go_wp2_with (refine wpList_load_all (by rfl) _ _ rfl w.heap.size rfl _ _ _ _ hg2 Tryd.underlying25 rfl (size_rq r) ?_)
  refine (light_any r (HQ.out.fs.below hb2) HQ.out.m HQ.out.t HQ.out.f (rd_max HQ.out.bd)).mono ?_
  rintro e w3 ⟨rfl, hbl3⟩
  have hb3 := hb2.trans (hbl3.mono hb2.size)
  have hg3 := obj_on hg2 hbl3
  clear hg2 hb2 hbl3
  by_cases hL : LightP r
  · rw [light_yes hL]
    have hok := hL.ok HQ.out.fs HQ.out.bd
    have hk := hok.k
    have HOK := Lib.hid hok
    clear hL hok
    go_upto_region 6 with (first
      | (refine wpList_load_all (by rfl) _ _ rfl w.heap.size rfl _ _ _ _ hg3 Tryd.underlying25 rfl (size_rq r) ?_)
      | (refine wpList_alloc_zero rfl _ rfl (rqA rqZ) zero_rq ?_; intro w4 hg4 hb4 hz4; clear hz4)
      | (refine wpList_store_all rfl _ _ _ rfl w3.heap.size rfl _ _ (rqA r) rfl hg4 (size_rq r) rfl (rq_one r) ?_; intro w5 hg5 hgr5 hz5; clear hz5))
    have hbl5 : Below w3.heap.size w3 w5 := hb4.grown hgr5 hb4.size (fun g hg => by obtain rfl := Option.some.inj hg; exact Nat.le_refl _)
    have hb5 := hb3.trans (hbl5.mono hb3.size)
    have hgb5 := obj_on hg3 hbl5
    have hcb := (cell_rq hgb5).2.2.2
    have hlt5 := obj_lt hg5
    have hw3 := hb3.size
    have hlt3 := obj_lt hg3
    clear hg4 hb4 hgr5 hbl5 hg3 hb3
    go_wp2_with fail
    refine (Twin_any r.B r.k r.d r.bd _ (HQ.out.bd.below hb5) (by omega)).mono ?_
    rintro e w6 ⟨A6, rfl, ho6, hbl6⟩
    have hb6 := hb5.trans (hbl6.mono hb5.size)
    have hg6 := obj_on hg5 hbl6
    have hgb6 := obj_on hgb5 hbl6
    have hlo6 := fun q hq => (ho6.lt q hq).1
    have hhi6 := fun q hq => (ho6.lt q hq).2
    have hc6 := (cell_rq hg6).2.2.2
    have hf6 : w6.frozen? ⟨w3.heap.size, 3, none⟩ = false := by simp [World.frozen?, hg6]
    have hg7 : (w6.setCell ⟨w3.heap.size, 3, none⟩ (.slice A6 r.k (r.k + 3))).heap[w3.heap.size]? = some (.cells (rqA { r with B := A6, d := r.k + 3 }) 25 (0, 0)) := by
      rw [cells_set _ hg6]
      rfl
    have hgr7 : w6.grownBy (w6.setCell ⟨w3.heap.size, 3, none⟩ (.slice A6 r.k (r.k + 3))) (some w3.heap.size) := ⟨rfl, rfl, rfl, by simp, fun k _ hk => cells_other (fun e => hk (by rw [e]))⟩
    have hb7 := hb6.grown hgr7 hb6.size (fun q hq => by obtain rfl := Option.some.inj hq; exact hw3)
    have hgb7 : (w6.setCell ⟨w3.heap.size, 3, none⟩ (.slice A6 r.k (r.k + 3))).heap[w.heap.size]? = some (.cells (rqA r) 25 (0, 0)) := by
      rw [← hgb6]
      exact cells_other (by have := obj_lt hgb5; omega)
    have ho7 := ho6.grown hgr7 (fun q hq e => by obtain rfl := Option.some.inj e; have h1 := hlo6 _ hq; omega)
    have hs7 := hgr7.size
    clear hgr7
    go_upto_region 7 with fail
    generalize w6.setCell ⟨w3.heap.size, 3, none⟩ (.slice A6 r.k (r.k + 3)) = w7 at hg7 hb7 hgb7 ho7 hs7 ⊢
    have hx7 : Rd w7 1 A6 r.k (r.k + 3) (r.bd.map b8) := by
      have h1 := (ho7.cut0 (hi := r.k) (by omega)).rd
      have e1 : ((r.bd ++ e5).map b8).take r.k = r.bd.map b8 := by
        rw [List.map_append, List.take_left' (by rw [List.length_map, HQ.out.bd.lenb])]
      rwa [Nat.mul_one, e1] at h1
    have hok7 : RqIn w7 { r with B := A6, d := r.k + 3 } := ⟨HQ.out.fs.below hb7, hx7, HOK.out.n, HOK.out.v, HOK.out.k, HOK.out.t⟩
    have HT := Lib.hid (To_any { r with B := A6, d := r.k + 3 } hok7 (HM.out _ hb7))
    dsimp only at HT
    obtain ⟨R, hR⟩ : ∃ R, toR r.m r.t = R := ⟨_, rfl⟩
    rw [hR] at HT
    clear hf6 hc6 hg6 hgb6 hb6 hbl6 ho6 hx7 hok7 hcb hgb5 hg5 hb5
    go_wp2_with (refine wpList_load_all (by rfl) _ _ rfl w3.heap.size rfl _ _ _ _ hg7 Tryd.underlying25 rfl (size_rq _) ?_)
    refine HT.out.mono ?_
    rintro e w8 ⟨hbl8, x, rfl, hokx, hx0, hx⟩
    have hb8 := hb7.trans (hbl8.mono hb7.size)
    have hg8 := obj_on hg7 hbl8
    have hgb8 := obj_on hgb7 hbl8
    have ho8 := ho7.below hbl8
    have hs8 := hbl8.size
    clear hbl8 hg7 hgb7 ho7 hb7 HT
    go_upto_region 8 with (first
      | (refine wpList_alloc_zero rfl _ rfl (opA opvZ) zero_op ?_; intro w9 hg9 hb9 hz9; clear hz9)
      | (refine wpList_store_all rfl _ _ _ rfl w8.heap.size rfl _ _ (opA x) rfl hg9 (size_op hokx) ((opA_size opZ_len).trans (opA_size hokx).symm) opA_one ?_; intro w10 hg10 hgr10 hz10; clear hz10))
    have hbl10 : Below w8.heap.size w8 w10 := hb9.grown hgr10 hb9.size (fun g hg => by obtain rfl := Option.some.inj hg; exact Nat.le_refl _)
    have hb10 := hb8.trans (hbl10.mono hb8.size)
    have hq10 := obj_on hg8 hbl10
    have hgb10 := obj_on hgb8 hbl10
    have ho10 := ho8.below hbl10
    have hX10 : OpB w10 w8.heap.size x := ⟨hokx, hg10⟩
    have hlt10 := obj_lt hg10
    have HX : Hid (∀ ro o, R.1 = some (ro, o) → x.d = ro.d ∧ x.o = o ∧ Own w10 w7.heap.size 5 1 x.bA x.bn x.bc ((if ro.b then r.bd else []).map b8) ∧ Own w10 w7.heap.size 5 1 x.tA x.tn x.tc ((tokF r.fs).map b8)) := fun ro o hro => by
      obtain ⟨h1, h2, h3, h4⟩ := hx ro o hro
      exact ⟨h1, h2, h3.below hbl10, h4.below hbl10⟩
    have HX0 := Lib.hid hx0
    have hxb : R.1 = none → x = opvZ := hx0
    clear hg9 hb9 hgr10 hbl10 hg8 hgb8 ho8 hg10 hx hx0 hb8
    have HR := Lib.hid (RTo_any r (w := w10) ⟨HQ.out.fs.below hb10, HQ.out.bd.below hb10, HOK.out.n, HOK.out.v, HOK.out.k, HOK.out.t⟩)
    rw [hR] at HR
    go_wp2_with (refine wpList_load_all (by rfl) _ _ rfl w.heap.size rfl _ _ _ _ hgb10 Tryd.underlying25 rfl (size_rq _) ?_)
    refine HR.out.mono ?_
    rintro e w11 ⟨hbl11, y, rfl, hoky, hy0, hy⟩
    have hb11 := hb10.trans (hbl11.mono hb10.size)
    have hq11 := obj_on hq10 hbl11
    have hgb11 := obj_on hgb10 hbl11
    have ho11 := ho10.below hbl11
    have hX11 := hX10.below hbl11
    have hs11 := hbl11.size
    go_upto_region 9 with (first
      | (refine wpList_alloc_zero rfl _ rfl (opA opvZ) zero_op ?_; intro w12 hg12 hb12 hz12; clear hz12)
      | (refine wpList_store_all rfl _ _ _ rfl w11.heap.size rfl _ _ (opA y) rfl hg12 (size_op hoky) ((opA_size opZ_len).trans (opA_size hoky).symm) opA_one ?_; intro w13 hg13 hgr13 hz13; clear hz13))
    have hbl13 : Below w11.heap.size w11 w13 := hb12.grown hgr13 hb12.size (fun g hg => by obtain rfl := Option.some.inj hg; exact Nat.le_refl _)
    have hb13 := hb11.trans (hbl13.mono hb11.size)
    have hq13 := obj_on hq11 hbl13
    have hgb13 := obj_on hgb11 hbl13
    have ho13 := ho11.below hbl13
    have hX13 := hX11.below hbl13
    have hY13 : OpB w13 w11.heap.size y := ⟨hoky, hg13⟩
    have hlt13 := obj_lt hg13
    have hboth := said_both hxb hy0 (fun ro o hro => by
      obtain ⟨h1, h2, h3, h4⟩ := HX.out ro o hro
      exact ⟨h1, h2, (h3.below hbl11).below hbl13, (h4.below hbl11).below hbl13⟩) (fun ro o hro => by
      obtain ⟨h1, h2, h3, h4⟩ := hy ro o hro
      exact ⟨h1, h2, h3.below hbl13, h4.below hbl13⟩)
    obtain ⟨bl, tl, hyd, hyo, ob1, ot1, ob2, ot2⟩ := hboth
    have hcq := (cell_rq hq13).2.2.2
    have hcb := (cell_rq hgb13).2.2.2
    dsimp only at hcq
    obtain ⟨S, hS⟩ : ∃ S : Int, (R.2 : Int) = S := ⟨_, rfl⟩
    rw [hS]
    have hSS : (S == S) = true := by simp
    have HK := Lib.hid (Kept_true A6 r.k r.B r.d r.bd w13 ho13.rd (HQ.out.bd.below hb13) (by omega))
    clear hg12 hb12 hgr13 hbl13 hbl11 hq11 hgb11 ho11 hX11 hg13 HX HX0 hxb hy0 hy hb11 hq10 hgb10 ho10 hX10 hb10 hS hR HR
    go_wp2_with fail
    refine HK.out.mono ?_
    rintro e w14 ⟨rfl, rfl⟩
    go_wp2_with fail
    refine (Spoil_any w5.heap.size A6 r.k (r.k + 3) _ _ (ho13.cut0 (hi := r.k) (by omega))).mono ?_
    rintro e w15 ⟨rfl, hg15, hz15⟩
    clear hz15
    have hX15 := hX13.keep (hg15.block w8.heap.size hX13.lt (fun e => by have h1 := hhi6 _ e.symm; omega))
    have hY15 := hY13.keep (hg15.block w11.heap.size hY13.lt (fun e => by have h1 := hhi6 _ e.symm; omega))
    have rb1 := ob1.rd.grown hg15 (fun q hq e => by have h1 := hhi6 _ e; have h2 := (ob1.lt q hq).1; omega)
    have rt1 := ot1.rd.grown hg15 (fun q hq e => by have h1 := hhi6 _ e; have h2 := (ot1.lt q hq).1; omega)
    have rb2 := ob2.rd.grown hg15 (fun q hq e => by have h1 := hhi6 _ e; have h2 := (ob2.lt q hq).1; omega)
    have rt2 := ot2.rd.grown hg15 (fun q hq e => by have h1 := hhi6 _ e; have h2 := (ot2.lt q hq).1; omega)
    have hb15 := hb13.grown hg15 hb13.size (fun q hq => by have h1 := hlo6 q hq; omega)
    obtain ⟨xd, xo, A1, n1, c1, B1, m1, e1⟩ := x
    obtain ⟨yd, yo, A2, n2, c2, B2, m2, e2⟩ := y
    dsimp only at hyd hyo rb1 rt1 rb2 rt2 hokx hoky
    subst hyd
    subst hyo
    have HS := Lib.hid (RSame_eq (d := yd) hokx rb1 rb2 rt1 rt2)
    have hxo := hX15.obj
    have hyo := hY15.obj
    clear hg15 ob1 ot1 ob2 ot2 rb1 rt1 rb2 rt2 hX13 hY13 ho13 hq13 hgb13 hcq hcb hb13 HK
    go_wp2_with (first
      | (refine wpList_load_all (by rfl) _ _ rfl w8.heap.size rfl _ _ _ _ hxo Tryd.underlying33 rfl (size_op hokx) ?_)
      | (refine wpList_load_all (by rfl) _ _ rfl w11.heap.size rfl _ _ _ _ hyo Tryd.underlying33 rfl (size_op hoky) ?_))
    refine HS.out.mono ?_
    rintro e w16 ⟨rfl, hbl16⟩
    have hb16 := hb15.trans (hbl16.mono hb15.size)
    have hX16 := hX15.below hbl16
    have c8 : w16.cell? ⟨w8.heap.size, 39, none⟩ = some (.int .i64 0) := hX16.cTail (i := 5) rfl
    have hld := Lib.hid (load_id hX16.rdDraw)
    clear hbl16 hX15 hY15 hxo hyo hX16 hb15 HS
    go_wp2_with (first
      | (refine wpList_load_run rfl _ _ rfl _ rfl _ hld.out ?_)
      | (refine wpList_build_run rfl _ _ rfl #[] (by rfl) _ (build_id0 _) ?_)
      | (refine wpList_eql_id rfl _ _ rfl zid_len zid_len rfl rfl ?_; rw [beq_self_eq_true]))
    go_ret
    exact ⟨rfl, hb16⟩
  · rw [light_no hL]
    go_wp2_with fail
    go_ret
    exact ⟨rfl, hb3⟩

end Go.Proofs.YtaopohacelmglaaDoor
