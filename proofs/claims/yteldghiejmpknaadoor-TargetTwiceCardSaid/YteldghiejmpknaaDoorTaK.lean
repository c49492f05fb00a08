/-
  Package target: Parse.
-/
import Derived.Test.YteldghiejmpknaaDoorTaJ
import Derived.Test.YteldghiejmpknaaDoorTaI
namespace Go.Proofs.YteldghiejmpknaaDoor
open Go.RowKit

theorem results_cell_tmp {P : Program} {fn : Func} {p q : Tmp} {ty : TypeId} (h : fn.results = #[.cell p ty, .tmp q]) (tmps : Array Value) (w : World) (g : Nat) (t : TypeId) (cs : Array Value) (fr : Nat × Nat) (d : TypeDesc)
    (hp : tmps.getD p undef = .pointer (some ⟨g, 0, none⟩)) (hg : w.heap[g]? = some (.cells cs t fr))
    (hu : P.underlying ty = some d) (hd : (match d with | .struct _ | .array _ _ => true | _ => false) = true) (hi : (P.info? ty).map (·.size) = some cs.size) (v : Value) (hv : tmps.getD q undef = v) :
    (results fn tmps).run P w = .ok (.tuple #[.agg cs, v]) w := by
  have hp' : tmps[p]?.getD undef = .pointer (some ⟨g, 0, none⟩) := by simpa using hp
  have hv' : tmps[q]?.getD undef = v := by simpa using hv
  simp [results, h, hp', hv', asAddr, run_loadVar_row w g t ty cs fr d hg hu hd hi]

theorem heap_setCell_ne {w : World} {g i k : Nat} (v : Value) (h : g ≠ k) : (w.setCell ⟨g, i, none⟩ v).heap[k]? = w.heap[k]? := by
  simp [World.setCell, Array.getElem?_modify, h]
theorem frozen_of {w : World} {g i : Nat} {cs : Array Value} {t : TypeId} (h : w.heap[g]? = some (.cells cs t (0, 0))) : w.frozen? ⟨g, i, none⟩ = false := by
  simp [World.frozen?, h]
section
variable {w : World} {g : Nat} {A B A' : Option Addr} {n c m d n' c' : Nat} {t : TypeId}
theorem tg_set0 (h : w.heap[g]? = some (.cells (tgA A n c B m d) t (0, 0))) : (w.setCell ⟨g, 0, none⟩ (.slice A' n' c')).heap[g]? = some (.cells (tgA A' n' c' B m d) t (0, 0)) := by
  rw [setCell_eq_setRow w g 0 _ t (0, 0) _ h]
  exact setRow_heap w g _ _ t (0, 0) h
theorem tg_set1 (h : w.heap[g]? = some (.cells (tgA A n c B m d) t (0, 0))) : (w.setCell ⟨g, 1, none⟩ (.slice A' n' c')).heap[g]? = some (.cells (tgA A n c A' n' c') t (0, 0)) := by
  rw [setCell_eq_setRow w g 1 _ t (0, 0) _ h]
  exact setRow_heap w g _ _ t (0, 0) h
end
theorem build_tg0 (W : World) : (Instr.build 26 #[]).run Tryd.prog W = .ok (.agg tgZ) W := by kernel_rfl
def Parsed (s : List UInt8) (w : World) (e : Ending) (w' : World) : Prop :=
  Below w.heap.size w w' ∧ ∃ A n c B m d, e = .returned (.tuple #[.agg (tgA A n c B m d), .int .i64 (parseF s).2.2]) ∧ Own w' w.heap.size 9 1 A n c ((parseF s).1.map strV) ∧ Own w' w.heap.size 32 2 B m d (prL (parseF s).2.1)
theorem parsed_bad {s : List UInt8} {w w' : World} {E : Nat} (h : parseF s = ([], [], E)) (hb : Below w.heap.size w w') : Parsed s w (.returned (.tuple #[.agg tgZ, .int .i64 E])) w' := by
  refine ⟨hb, none, 0, 0, none, 0, 0, ?_, ?_, ?_⟩
  · rw [h]
    rfl
  · rw [h]
    exact Own.nil_ _ _ _ _
  · rw [h]
    exact Own.nil_ _ _ _ _
theorem mapP_mem {β : Type} {f : List UInt8 → Option β} : ∀ {P : List (List UInt8)} {o : List β}, mapP f P = some o → ∀ y ∈ o, ∃ p ∈ P, f p = some y
  | [], o, h, y, hy => by
    obtain rfl := Option.some.inj h
    cases hy
  | p :: P, o, h, y, hy => by
    obtain ⟨z, hz, h2⟩ := Option.bind_eq_some_iff.1 h
    obtain ⟨o2, h3, rfl⟩ := Option.map_eq_some_iff.1 h2
    rcases List.mem_cons.1 hy with rfl | hy
    · exact ⟨p, by simp, hz⟩
    · obtain ⟨q, hq, hf⟩ := mapP_mem h3 y hy
      exact ⟨q, by simp [hq], hf⟩
theorem path_le {s : List UInt8} {P : List (List UInt8)} (h : pathF s = some P) : ∀ p ∈ P, p.length ≤ s.length := by
  unfold pathF at h
  split at h
  · obtain rfl := Option.some.inj h
    intro p hp
    cases hp
  · split at h
    · cases h
    · split at h
      · intro p hp
        obtain ⟨q, hq, hf⟩ := mapP_mem h p hp
        have h1 := (split1_le 47 _).2 q hq
        have h2 := part_le (nameF_some hf).1
        simp
        omega
      · cases h
theorem query_le {s : List UInt8} {Q : List Pm} (h : queryF s = some Q) : ∀ q ∈ Q, q.1.length ≤ s.length ∧ q.2.length ≤ s.length := by
  intro q hq
  obtain ⟨x, hx, hf⟩ := mapP_mem h q hq
  have h1 := (split1_le 38 _).2 x hx
  unfold parF at hf
  split at hf
  · obtain ⟨n, hn, h2⟩ := Option.bind_eq_some_iff.1 hf
    obtain ⟨v, hv, rfl⟩ := Option.map_eq_some_iff.1 h2
    have h3 := part_le (nameF_some hn).1
    have h4 := part_le hv
    have h5 := cut1_le 61 x
    dsimp only
    omega
  · cases hf

set_option maxRecDepth 20000 in
set_option maxHeartbeats 8000000 in
theorem Parse_any (s : List UInt8) (hs : s.length ≤ 1048575) (w : World) (hm : Mx w) : Calls Tryd.prog 9 #[.string ⟨s.toArray⟩] w (Parsed s w) := by
  have HM := Lib.hid hm
  have HC := Lib.hid (fun W (hb : Below w.heap.size w W) => Cut_any 63 s (by omega) W (hm.below hb))
  have hcl := cut1_le 63 s
  have hpf : ∀ X, cut1 63 s = X → parseF s = (match pathF X.1 with
    | none => ([], [], 4)
    | some P => contEnd P X.2.1 X.2.2) := fun X h => by rw [← h]; rfl
  obtain ⟨⟨a, b, f⟩, hX⟩ : ∃ X, cut1 63 s = X := ⟨_, rfl⟩
  rw [hX] at HC hcl
  have HPF := Lib.hid (hpf _ hX)
  dsimp only at HC hcl HPF
  have HPA := Lib.hid (fun W (hb : Below w.heap.size w W) => path_any a (by omega) W (hm.below hb))
  have HQU := Lib.hid (fun W (hb : Below w.heap.size w W) => query_any b (by omega) W (hm.below hb))
  have hla : a.length ≤ 1048575 := by omega
  have hlb : b.length ≤ 1048575 := by omega
  clear hm hcl hpf hX
  go_enter Tryd.func9, Tryd.ntmps9
  go_upto_region 1 with (refine wpList_alloc_zero rfl _ rfl tgZ zero_tg ?_; intro w1 hg1 hb1 hz1)
  have hlt1 : w.heap.size < w1.heap.size := (Array.getElem?_eq_some_iff.1 hg1).1
  clear hz1
  go_wp2_with fail
  refine (HC.out _ hb1).mono ?_
  rintro e w2 ⟨rfl, hbl2⟩
  have hb2 := hb1.trans (hbl2.mono hb1.size)
  have hR2 := (hbl2.block _ hlt1).trans hg1
  have hlt2 : w.heap.size < w2.heap.size := (Array.getElem?_eq_some_iff.1 hR2).1
  clear hbl2 hg1 hb1 hlt1
  go_upto_region 3 with (refine wpList_alloc_zero rfl _ rfl tgZ zero_tg ?_; intro w3 hg3 hbl3 hz3)
  have hb3 := hb2.trans (hbl3.mono hb2.size)
  have hR3 := (hbl3.block _ hlt2).trans hR2
  have hlt3 : w2.heap.size < w3.heap.size := (Array.getElem?_eq_some_iff.1 hg3).1
  obtain ⟨g, hg⟩ : ∃ g, w2.heap.size = g := ⟨_, rfl⟩
  rw [hg] at hg3 hlt3 hlt2 ⊢
  clear hz3 hbl3 hg hb2 hR2
  go_wp2_with fail
  refine (HPA.out _ hb3).mono ?_
  rintro e w4 ⟨hbl4, hcase⟩
  have hb4 := hb3.trans (hbl4.mono hb3.size)
  have hR4 := (hbl4.block _ (Nat.lt_trans hlt2 hlt3)).trans hR3
  have hg4 := (hbl4.block _ hlt3).trans hg3
  have hs34 := hbl4.size
  clear hbl4 hR3 hg3
  have hc40 := (cell_tg (show w4.heap[g]? = some (.cells (tgA none 0 0 none 0 0) _ _) from hg4)).1
  have hf40 := frozen_of (i := 0) hg4
  rcases hcase with ⟨hno, rfl⟩ | ⟨P, A, n, c, hyes, rfl, ho, hn⟩
  · have hpz : parseF s = ([], [], 4) := by rw [HPF.out, hno]
    have HE := Lib.hid hpz
    have hg5 : (w4.setCell ⟨g, 0, none⟩ (.slice none 0 0)).heap[g]? = _ := tg_set0 hg4
    have hR5 := (heap_setCell_ne (w := w4) (g := g) (i := 0) (.slice none 0 0) (show g ≠ w.heap.size by omega)).trans hR4
    have hb5 := hb4.setCell (p := ⟨g, 0, none⟩) (Nat.le_of_lt hlt2) (.slice none 0 0)
    clear hno hpz hR4 hg4 hg5
    go_wp2_with (first
      | (refine wpList_build_run rfl _ _ rfl #[] (by rfl) _ (build_tg0 _) ?_)
      | (refine wpList_store_all rfl _ _ _ rfl w.heap.size rfl _ tgZ tgZ rfl hR5 size_tg0 rfl tg_one ?_; intro wz hgz hgrz hzz; clear hzz))
    refine bodyPost_ret (results_cell_tmp rfl _ _ w.heap.size _ _ _ _ rfl hgz Tryd.underlying26 rfl size_tg0 _ rfl) rfl ?_
    exact parsed_bad HE.out (hb5.grown hgrz hb5.size (fun g hg => by injection hg with hg; omega))
  · have hR5 := (heap_setCell_ne (w := w4) (g := g) (i := 0) (.slice A n c) (show g ≠ w.heap.size by omega)).trans hR4
    have hg5 := tg_set0 (A' := A) (n' := n) (c' := c) (show w4.heap[g]? = some (.cells (tgA none 0 0 none 0 0) _ _) from hg4)
    have hb5 := hb4.setCell (p := ⟨g, 0, none⟩) (Nat.le_of_lt hlt2) (.slice A n c)
    have HoA : Own (w4.setCell ⟨g, 0, none⟩ (.slice A n c)) w3.heap.size 9 1 A n c (P.map strV) := ho.keep fun q _ hq _ => heap_setCell_ne (.slice A n c) (show g ≠ q by omega)
    have HPL := Lib.hid (fun p hp => (Nat.le_trans (path_le hyes p hp) (by omega) : p.length ≤ 1048576))
    have hpz : parseF s = contEnd P b f := by rw [HPF.out, hyes]
    have HPZ := Lib.hid hpz
    have hn2 : n ≤ 1048577 := by omega
    clear hyes hpz hR4 hg4 ho
    cases f
    · have HFIN : Hid (parseF s = finF P []) := HPZ.out
      go_upto_region 7 with fail
      obtain ⟨W5, hW5⟩ : ∃ W5, w4.setCell ⟨g, 0, none⟩ (.slice A n c) = W5 := ⟨_, rfl⟩
      rw [hW5] at hR5 hg5 hb5 HoA
      simp only [hW5]
      clear hW5 hc40 hf40
      have hSr := HoA.rd
      have hQr : Ps W5 none 0 0 [] := Rd.nil_ W5 2
      have HMA := Lib.hid (May_any hSr hQr HPL.out (fun q hq => by cases hq) (by omega))
      obtain ⟨z, hz⟩ : ∃ z, mayF P [] = z := ⟨_, rfl⟩
      rw [hz] at HMA
      cases z
      · have hpz : parseF s = ([], [], 6) := by rw [HFIN.out]; unfold finF; rw [hz]; rfl
        have HE := Lib.hid hpz
        clear hz hpz hSr hQr
        go_wp2_with (refine wpList_load_all (by rfl) _ _ rfl g rfl _ _ _ _ hg5 Tryd.underlying26 rfl size_tg0 ?_)
        refine HMA.out.mono ?_
        rintro e w6 ⟨rfl, hbl6⟩
        have hb6 := hb5.trans (hbl6.mono hb5.size)
        have hR6 := (hbl6.block _ (Array.getElem?_eq_some_iff.1 hR5).1).trans hR5
        clear hbl6 hR5 hg5
        go_wp2_with (first
          | (refine wpList_build_run rfl _ _ rfl #[] (by rfl) _ (build_tg0 _) ?_)
          | (refine wpList_store_all rfl _ _ _ rfl w.heap.size rfl _ tgZ tgZ rfl hR6 size_tg0 rfl tg_one ?_; intro wz hgz hgrz hzz; clear hzz))
        refine bodyPost_ret (results_cell_tmp rfl _ _ w.heap.size _ _ _ _ rfl hgz Tryd.underlying26 rfl size_tg0 _ rfl) rfl ?_
        exact parsed_bad HE.out (hb6.grown hgrz hb6.size (fun g hg => by injection hg with hg; omega))
      · have hpz : parseF s = (P, [], 0) := by rw [HFIN.out]; unfold finF; rw [hz]; rfl
        have HE := Lib.hid hpz
        clear hz hpz hSr hQr
        go_wp2_with (refine wpList_load_all (by rfl) _ _ rfl g rfl _ _ _ _ hg5 Tryd.underlying26 rfl size_tg0 ?_)
        refine HMA.out.mono ?_
        rintro e w6 ⟨rfl, hbl6⟩
        have hb6 := hb5.trans (hbl6.mono hb5.size)
        have hR6 := (hbl6.block _ (Array.getElem?_eq_some_iff.1 hR5).1).trans hR5
        have hg6 := (hbl6.block _ (Array.getElem?_eq_some_iff.1 hg5).1).trans hg5
        have HoA6 := HoA.below hbl6
        have HoB6 := (Own.nil_ W5 w3.heap.size 32 2).below hbl6
        clear hbl6 hR5 hg5
        go_wp2_with (first
          | (refine wpList_load_all (by rfl) _ _ rfl g rfl _ _ _ _ hg6 Tryd.underlying26 rfl size_tg0 ?_)
          | (refine wpList_store_all rfl _ _ _ rfl w.heap.size rfl _ tgZ (tgA A n c none 0 0) rfl hR6 size_tg rfl tg_one ?_; intro wz hgz hgrz hzz; clear hzz))
        refine bodyPost_ret (results_cell_tmp rfl _ _ w.heap.size _ _ _ _ rfl hgz Tryd.underlying26 rfl size_tg _ rfl) rfl ?_
        have hbz := hb6.grown hgrz hb6.size (fun g hg => by injection hg with hg; omega)
        refine ⟨hbz, A, n, c, none, 0, 0, by rw [HE.out]; rfl, ?_, ?_⟩
        · rw [HE.out]
          exact (HoA6.grown hgrz (fun q hq e => by have := (HoA6.lt q hq).1; have := Option.some.inj e; omega)).mono (by omega)
        · rw [HE.out]
          exact (HoB6.grown hgrz (fun q hq e => by have := (HoB6.lt q hq).1; have := Option.some.inj e; omega)).mono (by omega)
    · have HFIN : Hid (parseF s = contQ P [] b) := HPZ.out
      go_upto_region 7 with fail
      obtain ⟨W4, hW4⟩ : ∃ W4, w4.setCell ⟨g, 0, none⟩ (.slice A n c) = W4 := ⟨_, rfl⟩
      rw [hW4] at hR5 hg5 hb5 HoA
      simp only [hW4]
      have hlg : g < W4.heap.size := (Array.getElem?_eq_some_iff.1 hg5).1
      have hls : w3.heap.size ≤ W4.heap.size := by rw [← hW4]; simpa using hs34
      clear hW4 hc40 hf40
      go_wp2_with fail
      refine (HQU.out _ hb5).mono ?_
      rintro e w7 ⟨hbl7, hcase⟩
      have hb7 := hb5.trans (hbl7.mono hb5.size)
      have hR7 := (hbl7.block _ (Nat.lt_trans hlt2 hlg)).trans hR5
      have hg7 := (hbl7.block _ hlg).trans hg5
      have HoA7 := HoA.below hbl7
      have hs47 := hbl7.size
      clear hbl7 hR5 hg5 HoA
      have hc71 := (cell_tg hg7).2
      have hf71 := frozen_of (i := 1) hg7
      rcases hcase with ⟨hno, rfl⟩ | ⟨Q, B, m, d, hyes, rfl, hoq, hm⟩
      · have hpz : parseF s = ([], [], 4) := by rw [HFIN.out]; unfold contQ; rw [hno]
        have HE := Lib.hid hpz
        have hR8 := (heap_setCell_ne (w := w7) (g := g) (i := 1) (.slice none 0 0) (show g ≠ w.heap.size by omega)).trans hR7
        have hb8 := hb7.setCell (p := ⟨g, 1, none⟩) (Nat.le_of_lt hlt2) (.slice none 0 0)
        clear hno hpz hR7 hg7
        go_wp2_with (first
          | (refine wpList_build_run rfl _ _ rfl #[] (by rfl) _ (build_tg0 _) ?_)
          | (refine wpList_store_all rfl _ _ _ rfl w.heap.size rfl _ tgZ tgZ rfl hR8 size_tg0 rfl tg_one ?_; intro wz hgz hgrz hzz; clear hzz))
        refine bodyPost_ret (results_cell_tmp rfl _ _ w.heap.size _ _ _ _ rfl hgz Tryd.underlying26 rfl size_tg0 _ rfl) rfl ?_
        exact parsed_bad HE.out (hb8.grown hgrz hb8.size (fun g hg => by injection hg with hg; omega))
      · have hR5 := (heap_setCell_ne (w := w7) (g := g) (i := 1) (.slice B m d) (show g ≠ w.heap.size by omega)).trans hR7
        have hg5 := tg_set1 (A' := B) (n' := m) (c' := d) hg7
        have hb5 := hb7.setCell (p := ⟨g, 1, none⟩) (Nat.le_of_lt hlt2) (.slice B m d)
        have HoA : Own (w7.setCell ⟨g, 1, none⟩ (.slice B m d)) w3.heap.size 9 1 A n c (P.map strV) := HoA7.keep fun q _ hq _ => heap_setCell_ne (.slice B m d) (show g ≠ q by omega)
        have HoB : Own (w7.setCell ⟨g, 1, none⟩ (.slice B m d)) w3.heap.size 32 2 B m d (prL Q) := (hoq.mono hls).keep fun q _ hq _ => heap_setCell_ne (.slice B m d) (show g ≠ q by omega)
        have HQL := Lib.hid (fun q (hq : q ∈ Q) => (⟨Nat.le_trans (query_le hyes q hq).1 (by omega), Nat.le_trans (query_le hyes q hq).2 (by omega)⟩ : q.1.length ≤ 1048576 ∧ q.2.length ≤ 1048576))
        have hpz : parseF s = finF P Q := by rw [HFIN.out]; unfold contQ; rw [hyes]; rfl
        replace HFIN := Lib.hid hpz
        have hm2 : m ≤ 1048577 := by omega
        clear hyes hpz hR7 hg7 hoq HoA7
        go_upto_region 9 with fail
        obtain ⟨W5, hW5⟩ : ∃ W5, w7.setCell ⟨g, 1, none⟩ (.slice B m d) = W5 := ⟨_, rfl⟩
        rw [hW5] at hR5 hg5 hb5 HoA HoB
        simp only [hW5]
        clear hW5 hc71 hf71
        have hSr := HoA.rd
        have hQr : Ps W5 B m d Q := HoB.rd
        have HMA := Lib.hid (May_any hSr hQr HPL.out HQL.out (by omega))
        obtain ⟨z, hz⟩ : ∃ z, mayF P Q = z := ⟨_, rfl⟩
        rw [hz] at HMA
        cases z
        · have hpz : parseF s = ([], [], 6) := by rw [HFIN.out]; unfold finF; rw [hz]; rfl
          have HE := Lib.hid hpz
          clear hz hpz hSr hQr
          go_wp2_with (refine wpList_load_all (by rfl) _ _ rfl g rfl _ _ _ _ hg5 Tryd.underlying26 rfl size_tg0 ?_)
          refine HMA.out.mono ?_
          rintro e w6 ⟨rfl, hbl6⟩
          have hb6 := hb5.trans (hbl6.mono hb5.size)
          have hR6 := (hbl6.block _ (Array.getElem?_eq_some_iff.1 hR5).1).trans hR5
          clear hbl6 hR5 hg5
          go_wp2_with (first
            | (refine wpList_build_run rfl _ _ rfl #[] (by rfl) _ (build_tg0 _) ?_)
            | (refine wpList_store_all rfl _ _ _ rfl w.heap.size rfl _ tgZ tgZ rfl hR6 size_tg0 rfl tg_one ?_; intro wz hgz hgrz hzz; clear hzz))
          refine bodyPost_ret (results_cell_tmp rfl _ _ w.heap.size _ _ _ _ rfl hgz Tryd.underlying26 rfl size_tg0 _ rfl) rfl ?_
          exact parsed_bad HE.out (hb6.grown hgrz hb6.size (fun g hg => by injection hg with hg; omega))
        · have hpz : parseF s = (P, Q, 0) := by rw [HFIN.out]; unfold finF; rw [hz]; rfl
          have HE := Lib.hid hpz
          clear hz hpz hSr hQr
          go_wp2_with (refine wpList_load_all (by rfl) _ _ rfl g rfl _ _ _ _ hg5 Tryd.underlying26 rfl size_tg0 ?_)
          refine HMA.out.mono ?_
          rintro e w6 ⟨rfl, hbl6⟩
          have hb6 := hb5.trans (hbl6.mono hb5.size)
          have hR6 := (hbl6.block _ (Array.getElem?_eq_some_iff.1 hR5).1).trans hR5
          have hg6 := (hbl6.block _ (Array.getElem?_eq_some_iff.1 hg5).1).trans hg5
          have HoA6 := HoA.below hbl6
          have HoB6 := HoB.below hbl6
          clear hbl6 hR5 hg5
          go_wp2_with (first
            | (refine wpList_load_all (by rfl) _ _ rfl g rfl _ _ _ _ hg6 Tryd.underlying26 rfl size_tg0 ?_)
            | (refine wpList_store_all rfl _ _ _ rfl w.heap.size rfl _ tgZ (tgA A n c B m d) rfl hR6 size_tg rfl tg_one ?_; intro wz hgz hgrz hzz; clear hzz))
          refine bodyPost_ret (results_cell_tmp rfl _ _ w.heap.size _ _ _ _ rfl hgz Tryd.underlying26 rfl size_tg _ rfl) rfl ?_
          have hbz := hb6.grown hgrz hb6.size (fun g hg => by injection hg with hg; omega)
          refine ⟨hbz, A, n, c, B, m, d, by rw [HE.out]; rfl, ?_, ?_⟩
          · rw [HE.out]
            exact (HoA6.grown hgrz (fun q hq e => by have := (HoA6.lt q hq).1; have := Option.some.inj e; omega)).mono (by omega)
          · rw [HE.out]
            exact (HoB6.grown hgrz (fun q hq e => by have := (HoB6.lt q hq).1; have := Option.some.inj e; omega)).mono (by omega)

end Go.Proofs.YteldghiejmpknaaDoor
