/-
  Joined texts of this claim's author (each began as a text of its own; each says itself what it holds).
-/
import Derived.Test.YtckkmdigmecagaaGreatDoorG07
import Derived.Test.YtckkmdigmecagaaGreatDoorG08
import Derived.Test.YtckkmdigmecagaaGreatDoorG02
import Derived.Test.YtckkmdigmecagaaGreatDoorG03
import Derived.Test.YtckkmdigmecagaaGreatDoorG06
set_option linter.unusedVariables false
set_option linter.unusedSimpArgs false

/-
  The document's head.
-/
namespace Go.Proofs.YtckkmdigmecagaaGreatDoor
open Go.RowKit

theorem results_cell_tt {P : Program} {fn : Func} {p q r : Tmp} {ty : TypeId} (h : fn.results = #[.cell p ty, .tmp q, .tmp r]) (tmps : Array Value) (w : World) (g : Nat) (t : TypeId) (cs : Array Value) (fr : Nat × Nat) (d : TypeDesc)
    (hp : tmps.getD p undef = .pointer (some ⟨g, 0, none⟩)) (hg : w.heap[g]? = some (.cells cs t fr))
    (hu : P.underlying ty = some d) (hd : (match d with | .struct _ | .array _ _ => true | _ => false) = true) (hi : (P.info? ty).map (·.size) = some cs.size) (v u : Value) (hv : tmps.getD q undef = v) (hw : tmps.getD r undef = u) :
    (results fn tmps).run P w = .ok (.tuple #[.agg cs, v, u]) w := by
  have hp' : tmps[p]?.getD undef = .pointer (some ⟨g, 0, none⟩) := by simpa using hp
  have hv' : tmps[q]?.getD undef = v := by simpa using hv
  have hw' : tmps[r]?.getD undef = u := by simpa using hw
  simp [results, h, hp', hv', hw', asAddr, run_loadVar_row w g t ty cs fr d hg hu hd hi]
def FsOk (fs : List Fl.Fd) : Prop := fs.length ≤ 32 ∧ ∀ f ∈ fs, f.1.length ≤ 1024 ∧ f.2.length ≤ 1024 ∧ ∀ x ∈ f.2, x.toNat < 128
/-- What comes of a head that begins at p. -/
def Headed (s : Bs) (p : Nat) (w : World) (e : Ending) (w' : World) : Prop :=
  Below w.heap.size w w' ∧
    ((∃ y : WSt, feedW newW (s.drop p) = ([], y, 0) ∧ y.nx ≠ 4 ∧ e = .returned (.tuple #[.agg reqZ, .int .i64 (-1), .int .i64 0])) ∨
     (∃ (q : Nat) (E : Int), E ≠ 0 ∧ feedW newW (s.drop p) = ([], badW, E) ∧ e = .returned (.tuple #[.agg reqZ, .int .i64 (q : Int), .int .i64 E])) ∨
     (∃ (M T : Bs) (fs : List Fl.Fd) (q : Nat) (A : Option Addr) (n c : Nat), p < q ∧ q ≤ s.length ∧ FsOk fs ∧ Own w' w.heap.size 44 2 A n c (Fl.fdL fs) ∧ feedW newW (s.drop p) = afterL (emptyJ M T fs) (s.drop q) ∧ e = .returned (.tuple #[.agg (reqA M T A n c none 0 0 true), .int .i64 (q : Int), .int .i64 0])))
/-- What stands at each line. -/
structure HInv (s : Bs) (p : Nat) (w : World) (r0 r1 : Nat) (M T : Bs) (wr : World) (q : Nat) (fs : List Fl.Fd) (A : Option Addr) (n c : Nat) : Prop where
  g0 : wr.heap[r0]? = some (.cells reqZ 42 (0, 0))
  g1 : wr.heap[r1]? = some (.cells (reqA M T A n c none 0 0 true) 42 (0, 0))
  own : Own wr (r1 + 1) 44 2 A n c (Fl.fdL fs)
  fok : FsOk fs
  eq : feedW newW (s.drop p) = feedW (hdW M T fs) (s.drop q)
  bel : Below w.heap.size w wr
  lt : p < q
  le : q ≤ s.length
theorem hinv_below {s : Bs} {p : Nat} {w : World} {r0 r1 : Nat} {M T : Bs} {wr w2 : World} {q : Nat} {fs : List Fl.Fd} {A : Option Addr} {n c : Nat} (h : HInv s p w r0 r1 M T wr q fs A n c) (hb : Below wr.heap.size wr w2) : HInv s p w r0 r1 M T w2 q fs A n c :=
  ⟨(hb.block _ (Array.getElem?_eq_some_iff.1 h.g0).1).trans h.g0, (hb.block _ (Array.getElem?_eq_some_iff.1 h.g1).1).trans h.g1, h.own.below hb, h.fok, h.eq, h.bel.trans (hb.mono h.bel.size), h.lt, h.le⟩

theorem hfl7 {s : Bs} {p : Nat} {w : World} {r0 r1 : Nat} {M T : Bs} {wr : World} {q : Nat} {fs : List Fl.Fd} {A : Option Addr} {n c : Nat} (h : HInv s p w r0 r1 M T wr q fs A n c) (hn : n ≤ 31) : fs.length ≤ 31 := by
  have : fs.length = n := Fl.Fds.len (show Fl.Fds wr A n c fs from h.own.rd)
  omega
/-- A field more. -/
theorem hnext_inv {s : Bs} {p : Nat} {w : World} {r1 : Nat} {M T : Bs} {wr w7 : World} {q q2 : Nat} {fs : List Fl.Fd} {A A7 : Option Addr} {n c n7 c7 : Nat} {N V t : Bs} (h : HInv s p w w.heap.size r1 M T wr q fs A n c) (h01 : w.heap.size < r1)
    (heq : feedW newW (s.drop p) = feedW (hdW M T (fs ++ [(N, V)])) (s.drop q2)) (hz : N.length ≤ t.length ∧ V.length ≤ t.length ∧ ∀ x ∈ V, x.toNat < 128) (h1 : p < q2) (h2 : q2 ≤ s.length) (ht : t.length ≤ 1024) (hf : fs.length ≤ 31)
    (ho : Own w7 (r1 + 1) 44 2 A7 n7 c7 (Fl.fdL (fs ++ [(N, V)]))) (hg : wr.grownBy w7 (blk A)) (hA : blk A7 = blk A ∨ blk A7 = some wr.heap.size) :
    HInv s p w w.heap.size r1 M T (w7.setCell ⟨r1, 2, none⟩ (.slice A7 n7 c7)) q2 (fs ++ [(N, V)]) A7 n7 c7 ∧ w7.cell? ⟨r1, 2, none⟩ = some (.slice A n c) ∧ w7.frozen? ⟨r1, 2, none⟩ = false := by
  have hlt := (Array.getElem?_eq_some_iff.1 h.g1).1
  have hlt0 := (Array.getElem?_eq_some_iff.1 h.g0).1
  have hA1 : ∀ k, blk A = some k → r1 + 1 ≤ k := fun k hk => (h.own.lt k hk).1
  have hA7 : ∀ k, blk A7 = some k → k ≠ r1 := fun k hk e => by
    have := (ho.lt k hk).1
    omega
  have g1 : w7.heap[r1]? = _ := (hg.block _ hlt (fun e => by have := hA1 r1 e.symm; omega)).trans h.g1
  have g0 : w7.heap[w.heap.size]? = _ := (hg.block _ hlt0 (fun e => by have := hA1 _ e.symm; omega)).trans h.g0
  refine ⟨⟨(setc_other (by omega)).trans g0, by rw [setc_same _ g1]; rfl, ho.keep fun k hk _ _ => setc_other (fun e => hA7 k hk e.symm), ⟨by simp; omega, fun f hf => ?_⟩, heq, ?_, h1, h2⟩, cell_of g1 rfl, frozen_of g1⟩
  · rcases List.mem_append.1 hf with h3 | h3
    · exact h.fok.2 f h3
    · obtain rfl := List.mem_singleton.1 h3
      exact ⟨by dsimp only; omega, by dsimp only; omega, hz.2.2⟩
  · have hb : Below w.heap.size w w7 := h.bel.grown hg h.bel.size (fun k hk => by have := hA1 k hk; omega)
    exact hb.setCell (by show w.heap.size ≤ r1; omega) _

set_option maxRecDepth 20000 in
set_option maxHeartbeats 8000000 in
theorem Rhead_any {w : World} {A : Option Addr} {n c : Nat} {s : Bs} (h : Rd w 1 A n c (s.map b8)) (hn : n ≤ 1048576) (p : Nat) (hp : p ≤ n) :
    Calls Tryz.prog 26 #[.slice A n c, .int .i64 (p : Int)] w (Headed s p w) := by
  have hl := h.lenb
  have HL := Lib.hid hl
  have HH := Lib.hid h
  clear hl h
  have hRE : ∀ (g0w wz : World), Below w.heap.size w g0w → g0w.grownBy wz (some w.heap.size) → Below w.heap.size w wz := fun g0w wz hb hg => hb.grown hg hb.size (fun q hq => by obtain rfl := Option.some.inj hq; exact Nat.le_refl _)
  have HRE := Lib.hid hRE
  clear hRE
  go_enter Tryz.func26, Tryz.ntmps26
  go_wp2_with (refine wpList_alloc_zero rfl _ rfl reqZ zero_req ?_; intro w1 hg1 hb1 hz1; clear hz1)
  refine (Rline_any (HH.out.below hb1) hn p hp).mono ?_
  rintro e w2 ⟨rfl, t, next, E, hLR, rfl⟩
  have hLF := line_feed hLR (x := newW) rfl (by decide) rfl
  have HB1 := Lib.hid hb1
  have hlt1 : w.heap.size < w1.heap.size := (Array.getElem?_eq_some_iff.1 hg1).1
  clear hLR hb1
  rcases hLF with ⟨rfl, rfl, hf⟩ | ⟨hE, ⟨q, rfl⟩, hf⟩ | ⟨rfl, k, hk, rfl, htk, hk1, hf⟩
  · have HF := Lib.hid hf
    clear hf
    go_wp2_with (first
      | (refine wpList_build_run rfl _ _ rfl #[] (by rfl) _ (build_req0 _) ?_)
      | (refine wpList_store_all rfl _ _ _ rfl w.heap.size rfl _ reqZ reqZ rfl hg1 size_req rfl req_one ?_; intro wz hgz hgrz hzz; clear hzz))
    refine bodyPost_ret (results_cell_tt rfl _ _ w.heap.size _ _ _ _ rfl hgz Tryz.underlying42 rfl size_req _ _ rfl rfl) rfl ?_
    exact ⟨HRE.out _ _ HB1.out hgrz, .inl ⟨_, HF.out, by show (1 : Nat) ≠ 4; decide, rfl⟩⟩
  · have HF := Lib.hid hf
    have HE := Lib.hid hE
    have e1 : (E != 0) = true := by simpa using hE
    clear hf hE
    go_wp2_with (first
      | (refine wpList_build_run rfl _ _ rfl #[] (by rfl) _ (build_req0 _) ?_)
      | (refine wpList_store_all rfl _ _ _ rfl w.heap.size rfl _ reqZ reqZ rfl hg1 size_req rfl req_one ?_; intro wz hgz hgrz hzz; clear hzz))
    refine bodyPost_ret (results_cell_tt rfl _ _ w.heap.size _ _ _ _ rfl hgz Tryz.underlying42 rfl size_req _ _ rfl rfl) rfl ?_
    exact ⟨HRE.out _ _ HB1.out hgrz, .inr (.inl ⟨q, E, HE.out, HF.out, rfl⟩)⟩
  · have hdl : (s.drop p).length = n - p := by rw [List.length_drop, HL.out]
    obtain ⟨q, hq⟩ : ∃ q, p + k + 1 = q := ⟨_, rfl⟩
    rw [hq]
    have hdd : (s.drop p).drop (k + 1) = s.drop q := by rw [List.drop_drop, ← hq, Nat.add_assoc]
    rw [hdd] at hf
    have HF := Lib.hid hf
    have HQ := Lib.hid (show p < q ∧ q ≤ n by omega)
    have HFI := Lib.hid (Rfirst_any t (by omega) w1)
    have hnext : decide ((q : Int) < 0) = false := decide_eq_false (by omega)
    clear hf hdl hdd hq
    go_wp2_with fail
    refine HFI.out.mono ?_
    rintro e w2 ⟨hb2, hr⟩
    have hG2 := (hb2.block _ hlt1).trans hg1
    have hB2 := HB1.out.trans (hb2.mono HB1.out.size)
    have hlt2 : w.heap.size < w2.heap.size := Nat.lt_of_lt_of_le hlt1 hb2.size
    clear hg1 hb2 HB1 hlt1
    rcases hr with ⟨hf, rfl⟩ | ⟨M, T, hf, rfl⟩
    · have HF2 := Lib.hid (HF.out.trans (first_feed.1 hf))
      clear hf
      go_wp2_with (first
        | (refine wpList_alloc_zero rfl _ rfl reqZ zero_req ?_; intro w3 hg3 hb3 hz3; clear hz3)
        | (refine wpList_store_all rfl _ _ _ rfl w2.heap.size rfl _ reqZ reqZ rfl hg3 size_req rfl req_one ?_; intro w4 hg4 hgr4 hz4; clear hz4; have hb24 : Below w2.heap.size w2 w4 := hb3.grown hgr4 hb3.size (fun q hq => by obtain rfl := Option.some.inj hq; exact Nat.le_refl _); have hG4 := (hb24.block _ hlt2).trans hG2; clear hgr4; clear hg3; clear hb3)
        | (refine wpList_build_run rfl _ _ rfl #[] (by rfl) _ (build_req0 _) ?_)
        | (refine wpList_store_all rfl _ _ _ rfl w.heap.size rfl _ reqZ reqZ rfl hG4 size_req rfl req_one ?_; intro wz hgz hgrz hzz; clear hzz))
      refine bodyPost_ret (results_cell_tt rfl _ _ w.heap.size _ _ _ _ rfl hgz Tryz.underlying42 rfl size_req _ _ rfl rfl) rfl ?_
      exact ⟨HRE.out _ _ (hB2.trans (hb24.mono hB2.size)) hgrz, .inr (.inl ⟨q, 4, by decide, HF2.out, rfl⟩)⟩
    · have HF2 := Lib.hid (HF.out.trans (first_feed.2 M T hf))
      clear hf HF HFI hnext
      obtain ⟨r1, hr1⟩ : ∃ r, w2.heap.size = r := ⟨_, rfl⟩
      go_wp2_with (first
        | (refine wpList_alloc_zero rfl _ rfl reqZ zero_req ?_; intro w3 hg3 hb3 hz3; clear hz3)
        | (refine wpList_store_all rfl _ _ _ rfl w2.heap.size rfl _ _ _ rfl hg3 size_req rfl req_one ?_; intro w4 hg4 hgr4 hz4; clear hz4; have hb24 : Below w2.heap.size w2 w4 := hb3.grown hgr4 hb3.size (fun q hq => by obtain rfl := Option.some.inj hq; exact Nat.le_refl _); have hG4 := (hb24.block _ hlt2).trans hG2; clear hgr4; clear hg3; clear hb3))
      have hst : HInv s p w w.heap.size w2.heap.size M T w4 q [] none 0 0 := ⟨hG4, hg4, Own.nil_ _ _ _ _, ⟨by simp, by simp⟩, HF2.out, hB2.trans (hb24.mono hB2.size), HQ.out.1, by rw [HL.out]; exact HQ.out.2⟩
      rw [hr1] at hst hlt2
      have HST := Lib.hid hst
      have hr10 : w.heap.size ≠ r1 := by omega
      have HR1 := Lib.hid (show w.heap.size < r1 from hlt2)
      clear hst hG4 hg4 hb24 hG2 hB2 HF2 hr1 hk hk1 htk hlt2
      go_loopw [8] (fun i wr => ∃ (q : Nat) (fs : List Fl.Fd) (A1 : Option Addr) (n1 c1 : Nat), i = .int .i64 (q : Int) ∧ q ≤ n ∧ Hid (HInv s p w w.heap.size r1 M T wr q fs A1 n1 c1)) (fun i _ => n - (intOf i).toNat)
      case atStart => exact ⟨q, [], none, 0, 0, rfl, HQ.out.2, HST.out⟩
      case round =>
        clear HST HQ
        obtain ⟨q, fs, A1, n1, c1, rfl, hqn, hI⟩ := hrel
        have g0 := hI.out.g0
        have hll := HL.out
        go_wp2_with fail
        refine (Rline_any (HH.out.below hI.out.bel) hn q hqn).mono ?_
        rintro e w2 ⟨rfl, t, next, E, hLR, rfl⟩
        have hLF := line_feed hLR (x := hdW M T fs) rfl (by show (2 : Nat) ≠ 4; decide) rfl
        clear hLR
        rcases hLF with ⟨rfl, rfl, hf⟩ | ⟨hE, ⟨q2, rfl⟩, hf⟩ | ⟨rfl, k, hk, rfl, htk, hk1, hf⟩
        · have HF := Lib.hid (hI.out.eq.trans hf)
          have HB := Lib.hid hI.out.bel
          clear hf hI
          go_wp2_with (first
            | (refine wpList_build_run rfl _ _ rfl #[] (by rfl) _ (build_req0 _) ?_)
            | (refine wpList_store_all rfl _ _ _ rfl w.heap.size rfl _ reqZ reqZ rfl g0 size_req rfl req_one ?_; intro wz hgz hgrz hzz; clear hzz))
          refine bodyPost_ret (results_cell_tt rfl _ _ w.heap.size _ _ _ _ rfl hgz Tryz.underlying42 rfl size_req _ _ rfl rfl) rfl ?_
          exact ⟨HRE.out _ _ HB.out hgrz, .inl ⟨_, HF.out, by show (2 : Nat) ≠ 4; decide, rfl⟩⟩
        · have HF := Lib.hid (hI.out.eq.trans hf)
          have HB := Lib.hid hI.out.bel
          have HE := Lib.hid hE
          have e1 : (E != 0) = true := by simpa using hE
          clear hf hI hE
          go_wp2_with (first
            | (refine wpList_build_run rfl _ _ rfl #[] (by rfl) _ (build_req0 _) ?_)
            | (refine wpList_store_all rfl _ _ _ rfl w.heap.size rfl _ reqZ reqZ rfl g0 size_req rfl req_one ?_; intro wz hgz hgrz hzz; clear hzz))
          refine bodyPost_ret (results_cell_tt rfl _ _ w.heap.size _ _ _ _ rfl hgz Tryz.underlying42 rfl size_req _ _ rfl rfl) rfl ?_
          exact ⟨HRE.out _ _ HB.out hgrz, .inr (.inl ⟨q2, E, HE.out, HF.out, rfl⟩)⟩
        · have hdl : (s.drop q).length = n - q := by rw [List.length_drop, HL.out]
          obtain ⟨q2, hq2⟩ : ∃ q2, q + k + 1 = q2 := ⟨_, rfl⟩
          rw [hq2]
          have hdd : (s.drop q).drop (k + 1) = s.drop q2 := by rw [List.drop_drop, ← hq2, Nat.add_assoc]
          rw [hdd] at hf
          have HF := Lib.hid (hI.out.eq.trans hf)
          have HQ := Lib.hid (show q < q2 ∧ q2 ≤ n ∧ p < q2 by have := hI.out.lt; omega)
          have hnext : decide ((q2 : Int) < 0) = false := decide_eq_false (by omega)
          have g1 := hI.out.g1
          have hfl : fs.length = n1 := Fl.Fds.len (show Fl.Fds wr A1 n1 c1 fs from hI.out.own.rd)
          have hn32 : n1 ≤ 32 := by have := hI.out.fok.1; omega
          have c2 : wr.cell? ⟨r1, 2, none⟩ = some (.slice A1 n1 c1) := cell_of g1 rfl
          have htl : t.length ≤ 1023 := by omega
          have hq2n : q2 ≤ n := HQ.out.2.1
          clear hf hdl hdd hq2 hk hk1 htk
          by_cases hte : t = []
          · subst hte
            have HLD := Lib.hid (load_reqs g1)
            have HF2 := HF.out
            rw [empty_feed] at HF2
            have HF3 := Lib.hid HF2
            clear HF2 HF
            go_wp2_with (first
              | (refine wpList_load_run rfl _ _ rfl _ rfl _ HLD.out ?_)
              | (refine wpList_store_all rfl _ _ _ rfl w.heap.size rfl _ reqZ _ rfl g0 size_req rfl req_one ?_; intro wz hgz hgrz hzz; clear hzz))
            refine bodyPost_ret (results_cell_tt rfl _ _ w.heap.size _ _ _ _ rfl hgz Tryz.underlying42 rfl size_req _ _ rfl rfl) rfl ?_
            have hr1 := HR1.out
            refine ⟨HRE.out _ _ hI.out.bel hgrz, .inr (.inr ⟨M, T, fs, q2, A1, n1, c1, HQ.out.2.2, by rw [HL.out]; exact HQ.out.2.1, hI.out.fok, ?_, HF3.out, rfl⟩)⟩
            exact (hI.out.own.mono (by omega)).grown hgrz (fun k hk e => by
              have h1 := (hI.out.own.lt k hk).1
              have h2 := Option.some.inj e
              omega)
          · have hte2 : t.isEmpty = false := emp_ne hte
            by_cases h32 : n1 = 32
            · have HF2 := Lib.hid (HF.out.trans (line_long hte (by rw [hfl, h32])))
              have d32 : ((n1 : Int) == 32) = true := by rw [h32]; rfl
              have HB := Lib.hid hI.out.bel
              clear HF hte h32 hfl hn32 hI
              go_wp2_with (first
                | (refine wpList_build_run rfl _ _ rfl #[] (by rfl) _ (build_req0 _) ?_)
                | (refine wpList_store_all rfl _ _ _ rfl w.heap.size rfl _ reqZ reqZ rfl g0 size_req rfl req_one ?_; intro wz hgz hgrz hzz; clear hzz))
              refine bodyPost_ret (results_cell_tt rfl _ _ w.heap.size _ _ _ _ rfl hgz Tryz.underlying42 rfl size_req _ _ rfl rfl) rfl ?_
              exact ⟨HRE.out _ _ HB.out hgrz, .inr (.inl ⟨q2, 2, by decide, HF2.out, rfl⟩)⟩
            · have d32 : ((n1 : Int) == 32) = false := by rw [beq_eq_false_iff_ne]; omega
              have HFL := Lib.hid (line_field (M := M) (T := T) (t := t) (fs := fs) (l := s.drop q2) hte (by rw [hfl]; exact h32))
              have HLN := Lib.hid (Fl.RLine_any t (by omega) wr)
              have hfz := line_fz (s := t)
              unfold Fl.Lined at HLN
              obtain ⟨⟨N, V, E⟩, hE⟩ : ∃ r, Fl.lineR t = r := ⟨_, rfl⟩
              rw [hE] at HLN HFL hfz
              dsimp only at HLN HFL hfz
              have HFZ := Lib.hid hfz
              have hn31 : n1 ≤ 31 := by omega
              clear hE hte h32 hfl hn32 hfz
              go_wp2_with fail
              refine HLN.out.mono ?_
              rintro e w3 ⟨rfl, hb3⟩
              have hJ := hinv_below hI.out hb3
              have G0 := hJ.g0
              have HJ := Lib.hid hJ
              have hglt := (Array.getElem?_eq_some_iff.1 hJ.g1).1
              have hglt0 := (Array.getElem?_eq_some_iff.1 hJ.g0).1
              clear hJ hb3 g0 g1 c2 hI HLN
              by_cases hE0 : E = 0
              · subst hE0
                have HF2 := Lib.hid (HF.out.trans (HFL.out.2 rfl))
                have HZ := Lib.hid (HFZ.out rfl)
                clear HF HFL HFZ
                go_wp2_with (first
                  | (refine wpList_alloc_zero rfl _ rfl (Fl.fdA [] []) Fl.zero_fd ?_; intro w4 hg4 hb4 hz4; clear hz4)
                  | (refine wpList_store_all rfl _ _ _ rfl w3.heap.size rfl _ _ _ rfl hg4 (Fl.size_fd _ _) rfl (Fl.fd_one _ _) ?_; intro w5 hg5 hgr5 hz5; clear hz5; have hb35 : Below w3.heap.size w3 w5 := hb4.grown hgr5 hb4.size (fun q hq => by obtain rfl := Option.some.inj hq; exact Nat.le_refl _); have HJ5 := Lib.hid (hinv_below HJ.out hb35); have c25 : w5.cell? ⟨r1, 2, none⟩ = some (.slice A1 n1 c1) := cell_of HJ5.out.g1 rfl; have HLF := Lib.hid (load_fd hg5); clear hgr5; clear hg4; clear hb4)
                  | (refine wpList_load_run rfl _ _ rfl _ rfl _ HLF.out ?_)
                  | (refine wpList_litF1 (u := N) (v := V) rfl rfl rfl ?_; intro w6 hw6; have hl6 := litF1_rd hw6; have hb56 := litF1_below hw6; have HJ6 := Lib.hid (hinv_below HJ5.out hb56); clear hw6)
                  | (at_builtin; refine wpList_app rfl _ _ rfl Fl.ef HJ6.out.own rfl hl6 rfl (two_one N V) (by omega) (by unfold maxLen; omega) (Nat.le_trans hglt (Nat.le_trans hb35.size hb56.size)) ?_; intro A7 c7 w7 ho7 hg7 hq7; rw [← fdL_snoc] at ho7; have H7 := Lib.hid (hnext_inv HJ6.out HR1.out HF2.out HZ.out HQ.out.2.2 (by rw [HL.out]; exact HQ.out.2.1) (by have := htl; omega) (hfl7 HJ6.out hn31) ho7 hg7 hq7); have c27 := H7.out.2.1; have f27 := H7.out.2.2; clear ho7; clear hg7; clear hq7))
                go_roundw
                case rel => exact ⟨q2, _, A7, n1 + 1, c7, rfl, hq2n, H7.out.1⟩
                case measure => simp [intOf]; have := HQ.out; omega
              · have HF2 := Lib.hid (HF.out.trans (HFL.out.1 hE0))
                have e1 : (E != 0) = true := by simpa using hE0
                clear HF HFL hE0 HFZ
                go_wp2_with (first
                  | (refine wpList_alloc_zero rfl _ rfl (Fl.fdA [] []) Fl.zero_fd ?_; intro w4 hg4 hb4 hz4; clear hz4)
                  | (refine wpList_store_all rfl _ _ _ rfl w3.heap.size rfl _ _ _ rfl hg4 (Fl.size_fd _ _) rfl (Fl.fd_one _ _) ?_; intro w5 hg5 hgr5 hz5; clear hz5; have hb35 : Below w3.heap.size w3 w5 := hb4.grown hgr5 hb4.size (fun q hq => by obtain rfl := Option.some.inj hq; exact Nat.le_refl _); have G5 := (hb35.block _ hglt0).trans G0; clear hgr5; clear hg4; clear hb4)
                  | (refine wpList_build_run rfl _ _ rfl #[] (by rfl) _ (build_req0 _) ?_)
                  | (refine wpList_store_all rfl _ _ _ rfl w.heap.size rfl _ reqZ reqZ rfl G5 size_req rfl req_one ?_; intro wz hgz hgrz hzz; clear hzz))
                refine bodyPost_ret (results_cell_tt rfl _ _ w.heap.size _ _ _ _ rfl hgz Tryz.underlying42 rfl size_req _ _ rfl rfl) rfl ?_
                exact ⟨HRE.out _ _ (HJ.out.bel.trans (hb35.mono HJ.out.bel.size)) hgrz, .inr (.inl ⟨q2, 4, by decide, HF2.out, rfl⟩)⟩

end Go.Proofs.YtckkmdigmecagaaGreatDoor

/-
  The document's answer to field: Words.
-/
namespace Go.Proofs.YtckkmdigmecagaaGreatDoor.Fl
open Go.RowKit

theorem split1_first (c : UInt8) : ∀ (P R : List UInt8), c ∉ P → split1 c (P ++ c :: R) = P :: split1 c R
  | [], R, _ => by
    rw [List.nil_append, split1, if_pos rfl]
  | x :: P, R, h => by
    have hx : x ≠ c := fun e => h (by simp [e])
    rw [List.cons_append, split1, if_neg hx, split1_first c P R (fun e => h (by simp [e]))]
theorem split1_last (c : UInt8) : ∀ P : List UInt8, c ∉ P → split1 c P = [P]
  | [], _ => rfl
  | x :: P, h => by
    have hx : x ≠ c := fun e => h (by simp [e])
    rw [split1, if_neg hx, split1_last c P (fun e => h (by simp [e]))]
theorem emp_no' {l : List UInt8} (h : l ≠ []) : l.isEmpty = false := by
  cases l with
  | nil => exact absurd rfl h
  | cons x l => rfl
/-- Where the reading stands: Wd are the words behind it; the piece under way begins at st. -/
def WInv (s : List UInt8) (k st : Nat) (Wd : List (List UInt8)) : Prop :=
  (k ≤ s.length ∧ st ≤ k ∧ (44 : UInt8) ∉ (s.drop st).take (k - st) ∧ wordsF (split1 44 s) = Wd ++ wordsF (split1 44 (s.drop st))) ∨ (k = s.length + 1 ∧ wordsF (split1 44 s) = Wd)
variable {s : List UInt8} {k st : Nat} {Wd : List (List UInt8)}
theorem WInv.start : WInv s 0 0 [] := .inl ⟨by omega, Nat.le_refl _, by simp, by simp⟩
theorem WInv.beg (h : WInv s k st Wd) (hk : k ≤ s.length) : st ≤ k := by
  rcases h with h | h
  · exact h.2.1
  · omega
theorem WInv.done (h : WInv s k st Wd) (hk : s.length < k) : wordsF (split1 44 s) = Wd := by
  rcases h with h | h
  · omega
  · exact h.2
theorem WInv.skip (h : WInv s k st Wd) {x : UInt8} (hx : s[k]? = some x) (h44 : x ≠ 44) : WInv s (k + 1) st Wd := by
  obtain ⟨hkl, hxe⟩ := List.getElem?_eq_some_iff.1 hx
  rcases h with ⟨_, h2, h3, h4⟩ | h
  · refine .inl ⟨hkl, by omega, ?_, h4⟩
    have e : (s.drop st).take (k + 1 - st) = (s.drop st).take (k - st) ++ [x] := by
      rw [show k + 1 - st = k - st + 1 by omega, List.take_add_one, List.getElem?_drop, show st + (k - st) = k by omega, hx]
      rfl
    rw [e]
    intro hm
    rcases List.mem_append.1 hm with hm | hm
    · exact h3 hm
    · exact h44 (by simpa using hm : (44 : UInt8) = x).symm
  · omega
theorem WInv.piece (h : WInv s k st Wd) (hk : k = s.length ∨ s[k]? = some 44) :
    (trimL ((s.drop st).take (k - st)) = [] → WInv s (k + 1) (k + 1) Wd) ∧ (trimL ((s.drop st).take (k - st)) ≠ [] → WInv s (k + 1) (k + 1) (Wd ++ [smallL (trimL ((s.drop st).take (k - st)))])) := by
  have hkl : k ≤ s.length := by
    rcases hk with rfl | hk
    · exact Nat.le_refl _
    · exact Nat.le_of_lt (List.getElem?_eq_some_iff.1 hk).1
  obtain ⟨h1, h2, h3, h4⟩ : k ≤ s.length ∧ st ≤ k ∧ (44 : UInt8) ∉ (s.drop st).take (k - st) ∧ wordsF (split1 44 s) = Wd ++ wordsF (split1 44 (s.drop st)) := by
    rcases h with h | h
    · exact h
    · omega
  rcases hk with rfl | hk
  · have e : (s.drop st).take (s.length - st) = s.drop st := List.take_of_length_le (by rw [List.length_drop]; omega)
    rw [e] at h3 ⊢
    rw [split1_last 44 _ h3] at h4
    constructor
    · intro h5
      refine .inr ⟨rfl, ?_⟩
      rw [h4, wordsF, if_pos h5, wordsF, List.append_nil]
    · intro h5
      refine .inr ⟨rfl, ?_⟩
      rw [h4, wordsF, if_neg h5, wordsF]
  · obtain ⟨hlt, hxe⟩ := List.getElem?_eq_some_iff.1 hk
    have e : s.drop st = (s.drop st).take (k - st) ++ 44 :: s.drop (k + 1) := by
      have e1 : (s.drop st).drop (k - st) = 44 :: s.drop (k + 1) := by
        rw [List.drop_drop, show st + (k - st) = k by omega, List.drop_eq_getElem_cons hlt, hxe]
      rw [← e1, List.take_append_drop]
    have h5 : split1 44 (s.drop st) = (s.drop st).take (k - st) :: split1 44 (s.drop (k + 1)) := by
      have := split1_first 44 _ (s.drop (k + 1)) h3
      rwa [← e] at this
    rw [h5, wordsF] at h4
    have hn : (44 : UInt8) ∉ (s.drop (k + 1)).take (k + 1 - (k + 1)) := by simp
    constructor
    · intro h6
      rw [if_pos h6] at h4
      exact .inl ⟨by omega, Nat.le_refl _, hn, h4⟩
    · intro h6
      rw [if_neg h6] at h4
      exact .inl ⟨by omega, Nat.le_refl _, hn, by rw [h4]; simp⟩

set_option maxRecDepth 20000 in
set_option maxHeartbeats 8000000 in
theorem RWords_any (s : List UInt8) (hs : s.length ≤ 1048576) (w : World) : Calls Tryz.prog 45 #[.string ⟨s.toArray⟩] w fun e w' => ∃ A n c, e = .returned (.slice A n c) ∧ Own w' w.heap.size 9 1 A n c ((wordsF (split1 44 s)).map strV) ∧ Below w.heap.size w w' := by
  have hs1 : (s.length : Int) ≤ 1048576 := by omega
  go_enter Tryz.func45, Tryz.ntmps45
  go_wp2_with fail
  go_loopw [3, 4, 5] (fun l b i wr => ∃ (k st : Nat) (A : Option Addr) (n c : Nat) (Wd : List (List UInt8)), k ≤ s.length + 1 ∧ l = .slice A n c ∧ b = .int .i64 st ∧ i = .int .i64 k ∧ Own wr w.heap.size 9 1 A n c (Wd.map strV) ∧ n ≤ k ∧ Below w.heap.size w wr ∧ Hid (WInv s k st Wd)) (fun _ _ i _ => s.length + 1 - (intOf i).toNat)
  case atStart => exact ⟨0, 0, none, 0, 0, [], by omega, rfl, rfl, rfl, Own.nil_ _ _ _ _, by omega, Below.refl _ _, WInv.start⟩
  case round =>
    obtain ⟨k, st, A, n, c, Wd, hk, rfl, rfl, rfl, ho, hn, hb, hW⟩ := hrel
    by_cases hkN : k ≤ s.length
    · have hst := hW.out.beg hkN
      have hkI : (k : Int) ≤ s.length := by omega
      have hcs : (∃ x, s[k]? = some x ∧ x ≠ 44) ∨ (s[k]? = some 44) ∨ k = s.length := by
        by_cases hl : k < s.length
        · by_cases h44 : s[k] = 44
          · exact .inr (.inl (by rw [List.getElem?_eq_getElem hl, h44]))
          · exact .inl ⟨_, List.getElem?_eq_getElem hl, h44⟩
        · exact .inr (.inr (by omega))
      rcases hcs with ⟨x, hx, h44⟩ | hcs
      · have hN := Lib.hid (hW.out.skip hx h44)
        have hi := run_str_at (P := Tryz.prog) Tryz.underlying9 s k x hx (kl := .i64)
        have hkl : (k : Int) < s.length := (by have := (List.getElem?_eq_some_iff.1 hx).1; omega)
        have hk1 : k + 1 ≤ s.length + 1 := by omega
        have h44' : ((x.toNat : Int) != 44) = true := by
          simp
          intro e
          exact h44 (UInt8.toNat_inj.1 (by simpa using (by omega : x.toNat = 44)))
        clear hx h44 hst hkN hk hW
        go_wp2_with fail
        go_roundw
        case rel => exact ⟨k + 1, st, A, n, c, Wd, hk1, rfl, rfl, by go_num, ho, by omega, hb, hN⟩
        case measure => simp [intOf]; omega
      · obtain ⟨hP0, hP1⟩ := hW.out.piece hcs.symm
        have hsl := run_str_lh (P := Tryz.prog) Tryz.underlying9 s st k hst hkN (kl := .i64) (kh := .i64) rfl rfl
        have hpl : ((s.drop st).take (k - st)).length ≤ 1048576 := by rw [List.length_take, List.length_drop]; omega
        obtain ⟨p, hp⟩ : ∃ p, (s.drop st).take (k - st) = p := ⟨_, rfl⟩
        rw [hp] at hP0 hP1 hsl hpl
        have htl := trimL_le p
        have HT := Lib.hid (fun W => RTrim_any p (by omega) W)
        obtain ⟨q, hq⟩ : ∃ q, trimL p = q := ⟨_, rfl⟩
        rw [hq] at HT htl hP0 hP1
        have HS := Lib.hid (fun W => RSmall_any q (by omega) W)
        have HP0 := Lib.hid hP0
        have HP1 := Lib.hid hP1
        have hqi : (smallL q).isEmpty = q.isEmpty := by cases q <;> rfl
        have hk1 : k + 1 ≤ s.length + 1 := by omega
        have hg : (∃ x : UInt8, ((k : Int) < s.length ∧ (∀ W, (Instr.index 9 (.string ⟨s.toArray⟩) (.int .i64 (k : Int))).run Tryz.prog W = .ok (.int .u8 (x.toNat : Int)) W)) ∧ ((x.toNat : Int) != 44) = false) ∨ (s.length : Int) ≤ k := by
          rcases hcs with hx | rfl
          · exact .inl ⟨44, ⟨(by have := (List.getElem?_eq_some_iff.1 hx).1; omega), fun W => run_str_at Tryz.underlying9 s k 44 hx W⟩, rfl⟩
          · exact .inr (by omega)
        clear hcs hP0 hP1 hp hq hW hst hpl htl hk hkN
        rcases hg with ⟨x, ⟨hkl, hi⟩, hx44⟩ | hkl
        all_goals
          go_wp2_with fail
          refine (HT.out _).mono ?_
          rintro e w2 ⟨rfl, rfl⟩
          go_wp2_with fail
          refine (HS.out _).mono ?_
          rintro e w3 ⟨rfl, hb3⟩
          have hb13 := hb.trans (hb3.mono hb.size)
          have ho3 := ho.below hb3
          by_cases hqe : q = []
          · subst hqe
            have HN := Lib.hid (HP0.out rfl)
            have he0 : (smallL []).isEmpty = true := rfl
            clear hb3 ho HP1
            go_wp2_with fail
            go_roundw
            case rel => exact ⟨k + 1, k + 1, A, n, c, Wd, hk1, rfl, by go_num, by go_num, ho3, by omega, hb13, HN⟩
            case measure => simp [intOf]; omega
          · have hne : (smallL q).isEmpty = false := by rw [hqi]; exact emp_no' hqe
            have HN := Lib.hid (HP1.out hqe)
            clear hb3 ho HP0 hqi hqe
            go_wp2_with (at_builtin; refine wpList_app rfl _ _ rfl es (ho3.alloc _) rfl (Rd.lit _ [_] _ 1 rfl (by unfold maxLen; omega)) rfl (by simp [Value.oneCell']) (by omega) (by unfold maxLen; omega) (by have := hb13.size; simp; omega) ?_; intro A4 c4 w4 ho4 hg4 hq4; have hb4 := below_app hb13 (Nat.le_refl _) ho3 hg4)
            have ho5 : Own w4 w.heap.size 9 1 A4 (n + 1) c4 ((Wd ++ [smallL q]).map strV) := by
              rw [List.map_append]
              exact ho4
            go_roundw
            case rel => exact ⟨k + 1, k + 1, A4, n + 1, c4, _, hk1, rfl, by go_num, by go_num, ho5, by omega, hb4, HN⟩
            case measure => simp [intOf]; omega
    · have hd := hW.out.done (by omega)
      have hkI : (s.length : Int) < k := by omega
      rw [← hd] at ho
      clear hd hkN hW
      go_wp2_with fail
      go_ret
      exact ⟨A, n, c, rfl, ho, hb⟩

end Go.Proofs.YtckkmdigmecagaaGreatDoor.Fl

/-
  The document's body and closes.
-/
namespace Go.Proofs.YtckkmdigmecagaaGreatDoor
open Go.RowKit

theorem get_two (fs : List Fl.Fd) (s : Bs) : (Fl.getF fs s).2 = if Fl.cntF fs s = 0 then 5 else if Fl.cntF fs s = 1 then 0 else 6 := by
  unfold Fl.getF
  split
  · rfl
  · split <;> rfl
theorem cnt_le' (fs : List Fl.Fd) (s : Bs) : Fl.cntF fs s ≤ fs.length := List.countP_le_length
section
variable {fs : List Fl.Fd}
theorem empty_bad (h : Fl.cntF fs hoW ≠ 1 ∨ (0 < Fl.cntF fs teW ∧ 0 < Fl.cntF fs clW) ∨ 1 < Fl.cntF fs teW ∨ 1 < Fl.cntF fs clW) : emptyF fs = (4, none) := by
  unfold emptyF
  refine if_pos ?_
  rw [get_two, get_two]
  rcases h with h | ⟨h1, h2⟩ | h | h
  · exact .inl h
  · by_cases a : Fl.cntF fs teW = 1
    · by_cases b : Fl.cntF fs clW = 1
      · refine .inr (.inr (.inr (.inl ?_)))
        rw [a, b]
        exact ⟨rfl, rfl⟩
      · refine .inr (.inr (.inl ?_))
        rw [if_neg (by omega), if_neg b]
    · refine .inr (.inl ?_)
      rw [if_neg (by omega), if_neg a]
  · refine .inr (.inl ?_)
    rw [if_neg (by omega), if_neg (by omega)]
  · refine .inr (.inr (.inl ?_))
    rw [if_neg (by omega), if_neg (by omega)]
theorem size_none (h : Fl.cntF fs clW = 0) : sizeF fs = some 0 := by
  unfold sizeF
  rw [get_two, if_pos h, if_neg (by decide)]
theorem empty_te (h : Fl.cntF fs hoW = 1) (h1 : Fl.cntF fs teW = 1) (h0 : Fl.cntF fs clW = 0) : emptyF fs = if Fl.smallL (Fl.getF fs teW).1 ≠ chuW then (4, none) else (0, some st0) := by
  unfold emptyF
  rw [size_none h0, get_two, get_two, h, h1, h0]
  rw [if_neg (by decide)]
  by_cases a : Fl.smallL (Fl.getF fs teW).1 ≠ chuW
  · rw [if_pos ⟨rfl, a⟩, if_pos a]
  · rw [if_neg (fun b => a b.2), if_neg a]
    rfl
theorem empty_no (h : Fl.cntF fs hoW = 1) (h1 : Fl.cntF fs teW = 0) (h0 : Fl.cntF fs clW = 0) : emptyF fs = (0, some (stN 0)) := by
  unfold emptyF
  rw [size_none h0, get_two, get_two, h, h1, h0]
  rfl
theorem empty_cl (h : Fl.cntF fs hoW = 1) (h1 : Fl.cntF fs teW = 0) (h0 : Fl.cntF fs clW = 1) : (lenF (Fl.getF fs clW).1 = none → emptyF fs = (4, none)) ∧ ∀ v, lenF (Fl.getF fs clW).1 = some v → emptyF fs = if 4096 < v then (9, none) else (0, some (stN v)) := by
  have hs : sizeF fs = lenF (Fl.getF fs clW).1 := by
    unfold sizeF
    rw [get_two, h0]
    rfl
  refine ⟨fun hn => ?_, fun v hv => ?_⟩
  · unfold emptyF
    exact if_pos (.inr (.inr (.inr (.inr (hs.trans hn)))))
  · unfold emptyF
    rw [hs, hv, get_two, get_two, h, h1, h0]
    rw [if_neg (by simp), if_neg (by simp)]
    rfl
end
def Bodied (fs : List Fl.Fd) (w : World) (e : Ending) (w' : World) : Prop :=
  Below w.heap.size w w' ∧ ((∃ E : Int, E ≠ 0 ∧ emptyF fs = (E, none) ∧ e = .returned (.tuple #[.bool false, .int .i64 0, .int .i64 E])) ∨ ∃ (b : Bool) (n : Nat), emptyF fs = (0, some (if b then st0 else stN n)) ∧ n ≤ 4096 ∧ e = .returned (.tuple #[.bool b, .int .i64 (n : Int), .int .i64 0]))

set_option maxRecDepth 20000 in
set_option maxHeartbeats 8000000 in
theorem Rbody_any {w : World} {A : Option Addr} {n c : Nat} {fs : List Fl.Fd} (h : Fl.Fds w A n c fs) (hk : fs.length ≤ 32 ∧ ∀ f ∈ fs, f.2.length ≤ 1024) :
    Calls Tryz.prog 27 #[.slice A n c] w (Bodied fs w) := by
  have hln := h.len
  have hn : n ≤ 1000 := by omega
  have HT := Lib.hid (Fl.RCount_any h hn teW)
  have HC := Lib.hid (Fl.RCount_any h hn clW)
  have HO := Lib.hid (Fl.RCount_any h hn hoW)
  have HGT := Lib.hid (Fl.RGet_any h hn teW)
  have HGC := Lib.hid (Fl.RGet_any h hn clW)
  unfold Fl.Got at HGT HGC
  have v1 := get_val (fs := fs) (s := teW) (p := fun v => v.length ≤ 1024) (by simp) hk.2
  have v2 := get_val (fs := fs) (s := clW) (p := fun v => v.length ≤ 1024) (by simp) hk.2
  have hbad := empty_bad (fs := fs)
  have hte := empty_te (fs := fs)
  have hno := empty_no (fs := fs)
  have hcl := empty_cl (fs := fs)
  have ht2 := cnt_le' fs teW
  have hc2 := cnt_le' fs clW
  have ho2 := cnt_le' fs hoW
  obtain ⟨T, hT⟩ : ∃ T, Fl.cntF fs teW = T := ⟨_, rfl⟩
  obtain ⟨C, hC⟩ : ∃ C, Fl.cntF fs clW = C := ⟨_, rfl⟩
  obtain ⟨H, hH⟩ : ∃ H, Fl.cntF fs hoW = H := ⟨_, rfl⟩
  rw [hT] at HT hbad hte hno hcl ht2
  rw [hC] at HC hbad hte hno hcl hc2
  rw [hH] at HO hbad hte hno hcl ho2
  obtain ⟨⟨V1, E1⟩, hV1⟩ : ∃ r, Fl.getF fs teW = r := ⟨_, rfl⟩
  obtain ⟨⟨V2, E2⟩, hV2⟩ : ∃ r, Fl.getF fs clW = r := ⟨_, rfl⟩
  rw [hV1] at HGT v1 hte
  rw [hV2] at HGC v2 hcl
  dsimp only at HGT HGC v1 v2 hte hcl
  have HBAD := Lib.hid hbad
  have HTE := Lib.hid hte
  have HNO := Lib.hid hno
  have HCL := Lib.hid hcl
  have HSM := Lib.hid (fun W => Fl.RSmall_any V1 (by omega) W)
  have hb4 : ∀ wz, Below w.heap.size w wz → emptyF fs = (4, none) → Bodied fs w (.returned (.tuple #[.bool false, .int .i64 0, .int .i64 4])) wz := fun wz hb he => ⟨hb, .inl ⟨4, by decide, he, rfl⟩⟩
  have HB4 := Lib.hid hb4
  have hT32 : T ≤ 32 := by omega
  have hC32 : C ≤ 32 := by omega
  have hH32 : H ≤ 32 := by omega
  unfold teW at HT HGT
  unfold clW at HC HGC
  unfold hoW at HO
  clear hT hC hH hV1 hV2 hbad hte hno hcl ht2 hc2 ho2 hb4 hk hn hln h
  go_enter Tryz.func27, Tryz.ntmps27
  go_wp2_with fail
  refine HT.out.mono ?_
  rintro e w1 ⟨rfl, rfl⟩
  go_wp2_with fail
  refine HC.out.mono ?_
  rintro e w1 ⟨rfl, rfl⟩
  go_wp2_with fail
  refine HO.out.mono ?_
  rintro e w1 ⟨rfl, rfl⟩
  by_cases q1 : H = 1
  · have d1 : ((H : Int) != 1) = false := by rw [q1]; rfl
    by_cases q2 : T = 0
    · have d2 : decide ((0 : Int) < (T : Int)) = false := decide_eq_false (by omega)
      have d2n : decide (0 < T) = false := decide_eq_false (by omega)
      have d3 : decide ((1 : Int) < (T : Int)) = false := decide_eq_false (by omega)
      have d4 : ((T : Int) == 1) = false := by rw [q2]; rfl
      by_cases q3 : C = 0
      · have d5 : decide ((1 : Int) < (C : Int)) = false := decide_eq_false (by omega)
        have d6 : ((C : Int) == 0) = true := by rw [q3]; rfl
        have HE := Lib.hid (HNO.out q1 q2 q3)
        clear q1 q2 q3 hT32 hC32 hH32 v1 v2
        go_wp2_with fail
        go_ret3
        exact ⟨Below.refl _ _, .inr ⟨false, 0, HE.out, by omega, rfl⟩⟩
      · have d6 : ((C : Int) == 0) = false := by rw [beq_eq_false_iff_ne]; omega
        by_cases q4 : C = 1
        · have d5 : decide ((1 : Int) < (C : Int)) = false := decide_eq_false (by omega)
          have HE := Lib.hid (HCL.out q1 q2 q4)
          clear q1 q2 q3 q4 hT32 hC32 hH32 v1
          have hff : lenF V2 = if 1 ≤ V2.length ∧ V2.length ≤ 18 ∧ V2.all dgB = true then some (valF V2 0) else none := rfl
          have HLN := Lib.hid (fun h : ¬ (1 ≤ V2.length ∧ V2.length ≤ 18 ∧ V2.all dgB = true) => hff.trans (if_neg h))
          have HLY := Lib.hid (fun h : (1 ≤ V2.length ∧ V2.length ≤ 18 ∧ V2.all dgB = true) => hff.trans (if_pos h))
          have hsz := size_mk V2
          obtain ⟨L, hL⟩ : ∃ L, V2.length = L := ⟨_, rfl⟩
          have HL := Lib.hid hL
          rw [hL] at hsz v2
          clear hff hL
          go_wp2_with fail
          refine HGC.out.mono ?_
          rintro e w1 ⟨rfl, hb1⟩
          clear d1 d2 d3 d4 d5 d6
          go_wp2_with fail
          go_loopw [11, 12] (fun v i wr => ∃ (k V : Nat), k ≤ L ∧ k ≤ 18 ∧ i = .int .i64 k ∧ v = .int .i64 (V : Int) ∧ V < 10 ^ k ∧ w1 = wr ∧ Hid (V = valF (V2.take k) 0 ∧ ∀ (j : Nat) x, j < k → V2[j]? = some x → dgB x = true)) (fun _ i _ => L - (intOf i).toNat)
          case atStart => exact ⟨0, 0, by omega, by omega, rfl, rfl, by decide, rfl, ⟨by simp [valF], fun j x h => absurd h (by omega)⟩⟩
          case round =>
            obtain ⟨k, V, hk, hk18, rfl, rfl, hV, rfl, hH⟩ := hrel
            by_cases hka : k < L
            · have hkl : k < V2.length := by rw [HL.out]; exact hka
              have hx : V2[k]? = some (V2[k]'hkl) := List.getElem?_eq_getElem hkl
              generalize V2[k]'hkl = x at hx
              have hi : ∀ W, (Instr.index 9 (.string ⟨V2.toArray⟩) (.int .i64 (k : Int))).run Tryz.prog W = .ok (.int .u8 (x.toNat : Int)) W := fun W => run_str_at (P := Tryz.prog) Tryz.underlying9 V2 k x hx (kl := .i64) W
              have hk' : (k : Int) < L := by omega
              have hxb : (x.toNat : Int) ≤ 255 := by have := x.toNat_lt; omega
              have HX := Lib.hid hx
              rcases dg_case x with ⟨c1, hu⟩ | ⟨c1, c2, hu⟩ | ⟨c1, c2, hu⟩
              · have HZ := Lib.hid (HE.out.1 (HLN.out fun h => all_ne HX.out hu h.2.2))
                have e1 : decide ((x.toNat : Int) < 48) = true := decide_eq_true c1
                clear hx hka hkl hH c1 hu hV
                go_wp2_with fail
                go_ret3
                exact HB4.out _ hb1 HZ.out
              · have HZ := Lib.hid (HE.out.1 (HLN.out fun h => all_ne HX.out hu h.2.2))
                have e1 : decide ((x.toNat : Int) < 48) = false := decide_eq_false (by omega)
                have e2 : decide (57 < (x.toNat : Int)) = true := decide_eq_true c2
                clear hx hka hkl hH c1 c2 hu hV
                go_wp2_with fail
                go_ret3
                exact HB4.out _ hb1 HZ.out
              · have e1 : decide ((x.toNat : Int) < 48) = false := decide_eq_false (by omega)
                have e2 : decide (57 < (x.toNat : Int)) = false := decide_eq_false (by omega)
                by_cases hk17 : 17 < k
                · have e3 : decide ((17 : Int) < (k : Int)) = true := decide_eq_true (by omega)
                  have HZ := Lib.hid (HE.out.1 (HLN.out fun h => by have := h.2.1; have := HL.out; omega))
                  clear hx hka hkl hH c1 c2 hu hV hk17
                  go_wp2_with fail
                  go_ret3
                  exact HB4.out _ hb1 HZ.out
                · have e3 : decide ((17 : Int) < (k : Int)) = false := decide_eq_false (by omega)
                  have hp := pow10_le17 k (by omega)
                  have hVb : (V : Int) < 100000000000000000 := by omega
                  have hp2 : 10 * V + (x.toNat - 48) < 10 ^ (k + 1) := by
                    rw [Nat.pow_succ]
                    omega
                  have HP2 := Lib.hid hp2
                  have HN : Hid (10 * V + (x.toNat - 48) = valF (V2.take (k + 1)) 0 ∧ ∀ (j : Nat) y, j < k + 1 → V2[j]? = some y → dgB y = true) := ⟨by rw [valF_take hx, hH.out.1], fun j y hj hy => by
                    by_cases hjk : j < k
                    · exact hH.out.2 j y hjk hy
                    · obtain rfl : j = k := by omega
                      rw [hx] at hy
                      rw [← Option.some.inj hy]
                      exact hu⟩
                  have hc : ((10 * V + (x.toNat - 48) : Nat) : Int) = (V : Int) * 10 + (x.toNat : Int) - 48 := by omega
                  have HCC := Lib.hid hc
                  have hk18' : k + 1 ≤ 18 := by omega
                  clear hx hka hkl hH hu hV hp hp2 hc hk17
                  go_wp2_with fail
                  go_roundw
                  case rel => exact ⟨k + 1, 10 * V + (x.toNat - 48), by omega, hk18', by go_num, by rw [HCC.out], HP2.out, by trivial, HN⟩
                  case measure => simp [intOf]; omega
            · obtain rfl : k = L := by omega
              have hall := all_yes fun k x h => hH.out.2 k x (by have := (List.getElem?_eq_some_iff.1 h).1; have := HL.out; omega) h
              have hval := hH.out.1
              rw [List.take_of_length_le (by rw [HL.out]; exact Nat.le_refl _)] at hval
              by_cases hV0 : V2 = []
              · have HZ := Lib.hid (HE.out.1 (HLN.out fun h => by rw [hV0] at h; exact absurd h.1 (by simp)))
                have he : V2.isEmpty = true := by rw [hV0]; rfl
                clear hka hH hall hval hV hV0
                go_wp2_with fail
                go_ret3
                exact HB4.out _ hb1 HZ.out
              · have he : V2.isEmpty = false := emp_ne hV0
                have h1 : 1 ≤ V2.length := by
                  cases hq : V2 with
                  | nil => exact absurd hq hV0
                  | cons a b => simp
                have HZ := Lib.hid (HE.out.2 V (by rw [HLY.out ⟨h1, by have := HL.out; omega, hall⟩, ← hval]))
                have hlt : V < 1000000000000000000 := Nat.lt_of_lt_of_le hV (pow10_le _ hk18)
                by_cases hV4 : 4096 < V
                · have hd : decide ((4096 : Int) < (V : Int)) = true := decide_eq_true (by omega)
                  have HZ2 := HZ.out
                  rw [if_pos hV4] at HZ2
                  have HZ3 := Lib.hid HZ2
                  clear hka hH hall hval hV hV0 h1 hV4 HZ2
                  go_wp2_with fail
                  go_ret3
                  exact ⟨hb1, .inl ⟨9, by decide, HZ3.out, rfl⟩⟩
                · have hd : decide ((4096 : Int) < (V : Int)) = false := decide_eq_false (by omega)
                  have HZ2 := HZ.out
                  rw [if_neg hV4] at HZ2
                  have HZ3 := Lib.hid HZ2
                  have HV4 := Lib.hid (show V ≤ 4096 by omega)
                  clear hka hH hall hval hV hV0 h1 hV4 HZ2
                  go_wp2_with fail
                  go_ret3
                  exact ⟨hb1, .inr ⟨false, V, HZ3.out, HV4.out, rfl⟩⟩
        · have d5 : decide ((1 : Int) < (C : Int)) = true := decide_eq_true (by omega)
          have HE := Lib.hid (HBAD.out (.inr (.inr (.inr (by omega)))))
          clear q1 q2 q3 q4 hT32 hC32 hH32 v1 v2
          go_wp2_with fail
          go_ret3
          exact HB4.out _ (Below.refl _ _) HE.out
    · have d2 : decide ((0 : Int) < (T : Int)) = true := decide_eq_true (by omega)
      have d2n : decide (0 < T) = true := decide_eq_true (by omega)
      by_cases q3 : C = 0
      · have d5 : decide ((0 : Int) < (C : Int)) = false := decide_eq_false (by omega)
        have d5n : decide (0 < C) = false := decide_eq_false (by omega)
        have d6 : decide ((1 : Int) < (C : Int)) = false := decide_eq_false (by omega)
        by_cases q4 : T = 1
        · have d3 : decide ((1 : Int) < (T : Int)) = false := decide_eq_false (by omega)
          have d4 : ((T : Int) == 1) = true := by rw [q4]; rfl
          have HE := Lib.hid (HTE.out q1 q4 q3)
          clear q1 q2 q3 q4 hT32 hC32 hH32 v1 v2
          go_wp2_with fail
          refine HGT.out.mono ?_
          rintro e w1 ⟨rfl, hb1⟩
          by_cases hch : Fl.smallL V1 = chuW
          · have HE2 := HE.out
            rw [if_neg (fun h => h hch)] at HE2
            have HE3 := Lib.hid HE2
            rw [hch] at HSM
            unfold chuW at HSM
            clear hch HE2
            go_wp2_with fail
            refine (HSM.out _).mono ?_
            rintro e w2 ⟨rfl, hb2⟩
            go_wp2_with fail
            go_ret3
            exact ⟨hb1.trans (hb2.mono hb1.size), .inr ⟨true, 0, HE3.out, by omega, rfl⟩⟩
          · have HE2 := HE.out
            rw [if_pos hch] at HE2
            have HE3 := Lib.hid HE2
            have hd : (Fl.smallL V1 == [99, 104, 117, 110, 107, 101, 100]) = false := by simpa [chuW] using hch
            clear hch HE2
            go_wp2_with fail
            refine (HSM.out _).mono ?_
            rintro e w2 ⟨rfl, hb2⟩
            go_wp2_with fail
            go_ret3
            exact HB4.out _ (hb1.trans (hb2.mono hb1.size)) HE3.out
        · have d3 : decide ((1 : Int) < (T : Int)) = true := decide_eq_true (by omega)
          have HE := Lib.hid (HBAD.out (.inr (.inr (.inl (by omega)))))
          clear q1 q2 q3 q4 hT32 hC32 hH32 v1 v2
          go_wp2_with fail
          go_ret3
          exact HB4.out _ (Below.refl _ _) HE.out
      · have d5 : decide ((0 : Int) < (C : Int)) = true := decide_eq_true (by omega)
        have d5n : decide (0 < C) = true := decide_eq_true (by omega)
        have HE := Lib.hid (HBAD.out (.inr (.inl ⟨by omega, by omega⟩)))
        clear q1 q2 q3 hT32 hC32 hH32 v1 v2
        go_wp2_with fail
        go_ret3
        exact HB4.out _ (Below.refl _ _) HE.out
  · have d1 : ((H : Int) != 1) = true := by rw [bne_iff_ne]; omega
    have HE := Lib.hid (HBAD.out (.inl q1))
    clear q1 hT32 hC32 hH32 v1 v2
    go_wp2_with fail
    go_ret3
    exact HB4.out _ (Below.refl _ _) HE.out

end Go.Proofs.YtckkmdigmecagaaGreatDoor

/-
  The document's closes.
-/
namespace Go.Proofs.YtckkmdigmecagaaGreatDoor
open Go.RowKit

set_option maxRecDepth 20000 in
set_option maxHeartbeats 8000000 in
theorem Rcloses_any {w : World} {A : Option Addr} {n c : Nat} {fs : List Fl.Fd} (h : Fl.Fds w A n c fs) (hk : n ≤ 32 ∧ ∀ f ∈ fs, f.2.length ≤ 1024) :
    Calls Tryz.prog 30 #[.slice A n c] w fun e w' => e = .returned (.bool (closesF fs)) ∧ Below w.heap.size w w' := by
  have hln := h.len
  have HL := Lib.hid hln
  have HK := Lib.hid hk.2
  have hn := hk.1
  clear hln hk
  go_enter Tryz.func30, Tryz.ntmps30
  go_wp2_with fail
  go_loopw [3] (fun i wr => ∃ k : Nat, k ≤ n ∧ i = .int .i64 k ∧ Below w.heap.size w wr ∧ Hid (closesF (fs.take k) = false)) (fun i _ => n - (intOf i).toNat)
  case atStart => exact ⟨0, by omega, rfl, Below.refl _ _, (show closesF [] = false from rfl)⟩
  case round =>
    obtain ⟨k, hk, rfl, hb, hH⟩ := hrel
    by_cases hlt : k < n
    · have hx : fs[k]? = some (fs[k]'(by rw [HL.out]; exact hlt)) := List.getElem?_eq_getElem _
      generalize fs[k]'(by rw [HL.out]; exact hlt) = f at hx
      have hF := h.below hb
      have hidx := fun W => h.idx hlt W
      have c0 := hF.name hx
      have c1 : wr.cell? ⟨(at_ A (k * 2)).block, (at_ A (k * 2)).off + 1, none⟩ = some (.string ⟨f.2.toArray⟩) := by
        rw [show (⟨(at_ A (k * 2)).block, (at_ A (k * 2)).off + 1, none⟩ : Addr) = (at_ A (k * 2)).add 1 from rfl, Fl.at_add2]
        exact hF.value hx
      unfold Fl.strV at c0
      have hk' : (k : Int) < n := by omega
      have hfl := HK.out f (List.mem_of_getElem? hx)
      have hcs := closes_snoc hx
      have hxm := List.mem_of_getElem? hx
      obtain ⟨N, V⟩ := f
      dsimp only at hfl hcs c0 c1
      rw [hH.out, Bool.false_or] at hcs
      by_cases hN : N = coW
      · subst hN
        rw [show (coW == coW) = true by simp, Bool.true_and] at hcs
        have HWD := Lib.hid (Fl.RWords_any V (by omega) wr)
        have hyes : ∀ x ∈ Fl.wordsF (split1 44 V), x = closeW → closesF fs = true := fun x hx1 hx2 => by
          unfold closesF
          rw [List.any_eq_true]
          refine ⟨(coW, V), hxm, ?_⟩
          simp only [Bool.and_eq_true, List.contains_iff_mem]
          exact ⟨by simp, by rw [← hx2]; exact hx1⟩
        obtain ⟨Wl, hWl⟩ : ∃ l, Fl.wordsF (split1 44 V) = l := ⟨_, rfl⟩
        rw [hWl] at HWD hcs hyes
        have HCS := Lib.hid hcs
        have HYES := Lib.hid hyes
        unfold coW at c0
        clear hx hxm hcs hyes hWl hlt hF hH
        go_wp2_with fail
        refine HWD.out.mono ?_
        rintro e w6 ⟨A2, n2, c2, rfl, ho6, hbl6⟩
        have hB6 := hb.trans (hbl6.mono hb.size)
        have hWln : Wl.length = n2 := by have := ho6.rd.len; simpa using this
        have HWN := Lib.hid hWln
        have hrd6 := ho6.rd
        have hmx := ho6.rd.max
        have hle := ho6.rd.le
        unfold maxLen at hmx
        clear hb hbl6 hWln ho6 c0 c1 HWD
        go_wp2_with fail
        go_loopw [5] (fun i wq => ∃ j : Nat, j ≤ n2 ∧ i = .int .i64 j ∧ w6 = wq ∧ Hid ((Wl.take j).contains closeW = false)) (fun i _ => n2 - (intOf i).toNat)
        case atStart => exact ⟨0, by omega, rfl, rfl, (show ([] : List Bs).contains closeW = false from rfl)⟩
        case round =>
          obtain ⟨j, hj, rfl, rfl, hJ⟩ := hrel
          by_cases hjl : j < n2
          · have hy : Wl[j]? = some (Wl[j]'(by rw [HWN.out]; exact hjl)) := List.getElem?_eq_getElem _
            generalize Wl[j]'(by rw [HWN.out]; exact hjl) = wd at hy
            have hidx2 := run_index_rd (P := Tryz.prog) (A := A2) (n := n2) (c := c2) Fl.es hrd6.nil hrd6.le j hjl
            rw [Nat.mul_one] at hidx2
            have hcx := Rd.cell hrd6 j (Fl.strV wd) (by rw [List.getElem?_map, hy]; rfl)
            unfold Fl.strV at hcx
            have hj' : (j : Int) < n2 := by omega
            by_cases hwc : wd = closeW
            · have HZ := Lib.hid (HYES.out wd (List.mem_of_getElem? hy) hwc)
              have hd : (wd == [99, 108, 111, 115, 101]) = true := by simpa [closeW] using hwc
              clear hy hwc hjl hJ
              go_wp2_with fail
              go_ret
              exact ⟨by rw [HZ.out]; rfl, hB6⟩
            · have HN2 : Hid ((Wl.take (j + 1)).contains closeW = false) := by
                show _ = _
                rw [contains_snoc hy, hJ.out, Bool.false_or]
                simpa using hwc
              have hd : (wd == [99, 108, 111, 115, 101]) = false := by simpa [closeW] using hwc
              clear hy hwc hjl hJ
              go_wp2_with fail
              go_roundw
              case rel => exact ⟨j + 1, by omega, by go_num, by trivial, HN2⟩
              case measure => simp [intOf]; omega
          · obtain rfl : j = n2 := by omega
            have hj2 := hJ.out
            rw [List.take_of_length_le (by rw [HWN.out]; exact Nat.le_refl _)] at hj2
            have HN2 : Hid (closesF (fs.take (k + 1)) = false) := HCS.out.trans hj2
            clear hjl hJ hj2
            go_wp2_with fail
            go_roundw
            case rel => exact ⟨k + 1, by omega, by go_num, hB6, HN2⟩
            case measure => simp [intOf]; omega
      · have hd : (N == [99, 111, 110, 110, 101, 99, 116, 105, 111, 110]) = false := by simpa [coW] using hN
        have HN2 : Hid (closesF (fs.take (k + 1)) = false) := by
          show _ = _
          rw [hcs, show (N == coW) = false by simpa using hN, Bool.false_and]
        clear hx hxm hcs hN hlt hF hH c1
        go_wp2_with fail
        go_roundw
        case rel => exact ⟨k + 1, by omega, by go_num, hb, HN2⟩
        case measure => simp [intOf]; omega
    · obtain rfl : k = n := by omega
      have hz := hH.out
      rw [List.take_of_length_le (by rw [HL.out]; exact Nat.le_refl _)] at hz
      have HZ := Lib.hid hz
      clear hlt hz hH
      go_wp2_with fail
      go_ret
      exact ⟨by rw [HZ.out]; rfl, hb⟩

end Go.Proofs.YtckkmdigmecagaaGreatDoor

/-
  Regions that draw their order (see MixD): a plan with a tail: what the reads need is asked for ahead of the tail's first operation alone, which may be a store that changes it.
-/
namespace Go.Proofs.YtckkmdigmecagaaGreatDoor
open Go.RowKit

inductive TPlan where
  | read (i : Nat) (p : TPlan)
  | one (i : Nat) (p : TPlan)
  | two (i j : Nat) (p q : TPlan)
  | free (i : Nat) (p : TPlan)
  | tail (i : Nat) (p : MPlan)
def TPlan.reads : List Nat → TPlan → TPlan
  | [], p => p
  | i :: l, p => .read i (TPlan.reads l p)

section
variable {P : Program} {ops : Array Oper} {Q : Exit → Act → World → Prop} {md : Region.Mode} {S : World → Prop} {T : Nat}

/-- Whatever order is picked, and S holds behind every operation ahead of number T. -/
def wpAnyF (P : Program) (md : Region.Mode) (ops : Array Oper) (Q : Exit → Act → World → Prop) (S : World → Prop) (T : Nat) : Nat → Array Bool → Act → World → Prop
  | 0, listed, a, w => Region.ready md ops listed = [] ∧ Q .normal a w
  | fuel + 1, listed, a, w =>
    (Region.ready md ops listed = [] → Q .normal a w) ∧
    ∀ i ∈ Region.ready md ops listed, wpOp P ops Q i (fun a' w' => ((listed.setIfInBounds i true).getD T true = false → S w') ∧ wpAnyF P md ops Q S T fuel (listed.setIfInBounds i true) a' w') a w
theorem anyF_held : ∀ (fuel : Nat) (listed : Array Bool) (a : Act) (w : World), wpAnyF P md ops Q S T fuel listed a w → wpAnyH P md ops Q (fun _ => True) fuel listed a w
  | 0, _, _, _, h => h
  | fuel + 1, _, _, _, h => ⟨h.1, fun i hi => wpOp_mono (fun a' w' h' => ⟨trivial, anyF_held fuel _ a' w' h'.2⟩) (h.2 i hi)⟩
theorem getD_keep {listed : Array Bool} {i : Nat} (h : listed.getD T true = true) : (listed.setIfInBounds i true).getD T true = true := by
  by_cases e : i = T
  · subst e
    by_cases hl : i < listed.size
    · simp [hl]
    · simp [Array.getElem?_eq_none (Nat.le_of_not_lt hl)] at h ⊢
  · rwa [getD_set_ne true e]
theorem held_anyF : ∀ (fuel : Nat) (listed : Array Bool) (a : Act) (w : World), listed.getD T true = true → wpAnyH P md ops Q (fun _ => True) fuel listed a w → wpAnyF P md ops Q S T fuel listed a w
  | 0, _, _, _, _, h => h
  | fuel + 1, listed, _, _, ht, h => ⟨h.1, fun i hi => wpOp_mono (fun a' w' h' => ⟨fun hf => (by rw [getD_keep ht] at hf; cases hf), held_anyF fuel _ a' w' (getD_keep ht) h'.2⟩) (h.2 i hi)⟩
/-- T waits for i. -/
def waits (md : Region.Mode) (ops : Array Oper) (T i : Nat) : Bool := match ops[T]? with
  | none => false
  | some o => o.after.any fun e => Region.binds md e && (e.on == i)
theorem anyF_first {i : Nat} {oi : Oper} {v : Value} (hi : ops[i]? = some oi) (hsel : ∀ (j : Nat) (o : Oper) cs b, ops[j]? = some o → o.op ≠ .select cs b) (hQ : ∀ c a w, Q (.panic c) (a.put oi.dst v) w → Q (.panic c) a w) (hwt : waits md ops T i = true) (hiT : i ≠ T) :
    ∀ (fuel : Nat) (listed : Array Bool) (a : Act) (w : World), (∀ j oj, ops[j]? = some oj → j ≠ i → listed.getD j true = false → (∀ e ∈ oj.after, Region.binds md e = true → e.on ≠ i) → oi.apart ops oj = true) →
      i ∈ Region.ready md ops listed → YC P ops S oi v a → S w → listed.getD T true = false → wpAnyF P md ops Q S T fuel (listed.setIfInBounds i true) (a.put oi.dst v) w → wpAnyF P md ops Q S T (fuel + 1) listed a w
  | fuel, listed, a, w, hfree, hr, hy, hS, hT, H => by
    refine ⟨fun h0 => (by rw [h0] at hr; cases hr), fun j hj => ?_⟩
    by_cases e : j = i
    · subst e
      exact hy.go hi hS ⟨fun _ => hS, H⟩
    · match fuel, H with
      | 0, H =>
        have := ready_mono hj e
        rw [H.1] at this
        cases this
      | fuel + 1, H =>
        obtain ⟨hun, oj, hoj, hall⟩ := mem_ready.1 hj
        have hun2 := (mem_ready.1 hr).1
        have hno : ∀ x ∈ oj.after, Region.binds md x = true → x.on ≠ i := by
          intro x hx hb hxi
          have h1 := hall x hx hb
          rw [hxi] at h1
          by_cases hlt : i < listed.size
          · simp [hlt] at h1 hun2
            rw [h1] at hun2
            cases hun2
          · simp [Array.getElem?_eq_none (Nat.le_of_not_lt hlt)] at h1
        have hjT : j ≠ T := by
          intro ejT
          subst ejT
          unfold waits at hwt
          rw [hoj] at hwt
          obtain ⟨x, hx, hb⟩ := Array.any_eq_true'.1 hwt
          rw [Bool.and_eq_true, beq_iff_eq] at hb
          exact hno x hx hb.1 hb.2
        have h2 := YC.swap hoj (hfree j oj hoj e hun hno) (fun cs b => hsel i oi cs b hi) (fun cs b => hsel j oj cs b hoj) hQ hy (H.2 j (ready_mono hj e))
        have hT2 : ((listed.setIfInBounds i true).setIfInBounds j true).getD T true = false := by
          rw [getD_set_ne true hjT, getD_set_ne true hiT]
          exact hT
        refine wpOp_mono (fun a' w' h3 => ⟨fun _ => h3.2.1 hT2, anyF_first hi hsel hQ hwt hiT fuel (listed.setIfInBounds j true) a' w' ?_ (ready_mono hr (Ne.symm e)) h3.1 (h3.2.1 hT2) ?_ ?_⟩) h2
        · intro k ok hk hki hku hkn
          refine hfree k ok hk hki ?_ hkn
          by_cases hjk : j = k
          · subst hjk
            exact hun
          · rwa [getD_set_ne true hjk] at hku
        · rw [getD_set_ne true hjT]
          exact hT
        · rw [Array.setIfInBounds_comm _ _ e]
          exact h3.2.2

/-- A read that hangs on no world. -/
theorem anyF_free {i : Nat} {oi : Oper} {v : Value} (hi : ops[i]? = some oi) (hsel : ∀ (j : Nat) (o : Oper) cs b, ops[j]? = some o → o.op ≠ .select cs b) (hQ : ∀ c a w, Q (.panic c) (a.put oi.dst v) w → Q (.panic c) a w) (hiT : i ≠ T) :
    ∀ (fuel : Nat) (listed : Array Bool) (a : Act) (w : World), (∀ j oj, ops[j]? = some oj → j ≠ i → listed.getD j true = false → (∀ e ∈ oj.after, Region.binds md e = true → e.on ≠ i) → oi.apart ops oj = true) →
      i ∈ Region.ready md ops listed → YC P ops (fun _ => True) oi v a → (listed.getD T true = false → S w) → wpAnyF P md ops Q S T fuel (listed.setIfInBounds i true) (a.put oi.dst v) w → wpAnyF P md ops Q S T (fuel + 1) listed a w
  | fuel, listed, a, w, hfree, hr, hy, hS, H => by
    refine ⟨fun h0 => (by rw [h0] at hr; cases hr), fun j hj => ?_⟩
    by_cases e : j = i
    · subst e
      exact hy.go hi trivial ⟨fun ht => hS (by rw [getD_set_ne true hiT] at ht; exact ht), H⟩
    · match fuel, H with
      | 0, H =>
        have := ready_mono hj e
        rw [H.1] at this
        cases this
      | fuel + 1, H =>
        obtain ⟨hun, oj, hoj, hall⟩ := mem_ready.1 hj
        have hun2 := (mem_ready.1 hr).1
        have hno : ∀ x ∈ oj.after, Region.binds md x = true → x.on ≠ i := by
          intro x hx hb hxi
          have h1 := hall x hx hb
          rw [hxi] at h1
          by_cases hlt : i < listed.size
          · simp [hlt] at h1 hun2
            rw [h1] at hun2
            cases hun2
          · simp [Array.getElem?_eq_none (Nat.le_of_not_lt hlt)] at h1
        have h2 := YC.swap hoj (hfree j oj hoj e hun hno) (fun cs b => hsel i oi cs b hi) (fun cs b => hsel j oj cs b hoj) hQ hy (H.2 j (ready_mono hj e))
        have hT2 : ((listed.setIfInBounds i true).setIfInBounds j true).getD T true = (listed.setIfInBounds j true).getD T true := by
          rw [Array.setIfInBounds_comm _ _ (Ne.symm e), getD_set_ne true hiT]
        refine wpOp_mono (fun a' w' h3 => ⟨fun ht => h3.2.1 (hT2.trans ht), anyF_free hi hsel hQ hiT fuel (listed.setIfInBounds j true) a' w' ?_ (ready_mono hr (Ne.symm e)) h3.1 (fun ht => h3.2.1 (hT2.trans ht)) ?_⟩) h2
        · intro k ok hk hki hku hkn
          refine hfree k ok hk hki ?_ hkn
          by_cases hjk : j = k
          · subst hjk
            exact hun
          · rwa [getD_set_ne true hjk] at hku
        · rw [Array.setIfInBounds_comm _ _ e]
          exact h3.2.2

def wpTPlan (P : Program) (ops : Array Oper) (Q : Exit → Act → World → Prop) (S : World → Prop) : TPlan → Act → World → Prop
  | .read i p, a, w => match ops[i]? with
    | none => False
    | some o => ∃ v, YC P ops S o v a ∧ wpTPlan P ops Q S p (a.put o.dst v) w
  | .one i p, a, w => wpOneAt P ops Q i (fun a' w' => S w' ∧ wpTPlan P ops Q S p a' w') a w
  | .two i j p q, a, w => wpOneAt P ops Q i (fun a' w' => S w' ∧ wpTPlan P ops Q S p a' w') a w ∧ wpOneAt P ops Q j (fun a' w' => S w' ∧ wpTPlan P ops Q S q a' w') a w
  | .free i p, a, w => match ops[i]? with
    | none => False
    | some o => ∃ v, YC P ops (fun _ => True) o v a ∧ wpTPlan P ops Q S p (a.put o.dst v) w
  | .tail i p, a, w => wpOneAt P ops Q i (fun a' w' => wpPlan P ops Q (fun _ => True) p a' w') a w
def tplanB (md : Region.Mode) (ops : Array Oper) (T : Nat) : Nat → TPlan → Array Bool → Bool
  | f + 1, .read i p, listed => (match ops[i]? with
    | none => false
    | some _ => (Region.ready md ops listed).contains i && Region.free md ops listed i && waits md ops T i && (i != T)) && tplanB md ops T f p (listed.setIfInBounds i true)
  | f + 1, .one i p, listed => (Region.ready md ops listed == [i]) && (i != T) && tplanB md ops T f p (listed.setIfInBounds i true)
  | f + 1, .two i j p q, listed => (Region.ready md ops listed == [i, j]) && (i != T) && (j != T) && tplanB md ops T f p (listed.setIfInBounds i true) && tplanB md ops T f q (listed.setIfInBounds j true)
  | f + 1, .free i p, listed => (match ops[i]? with
    | none => false
    | some _ => (Region.ready md ops listed).contains i && Region.free md ops listed i && (i != T)) && tplanB md ops T f p (listed.setIfInBounds i true)
  | f + 1, .tail i p, listed => (Region.ready md ops listed == [i]) && (i == T) && planB md ops f p (listed.setIfInBounds i true)
  | 0, _, _ => false
theorem tplan_anyF (hns : Region.noSelect ops = true) (hQ : ∀ c a d v w, Q (.panic c) (Act.put a d v) w → Q (.panic c) a w) :
    ∀ (f : Nat) (p : TPlan) (listed : Array Bool) (a : Act) (w : World), tplanB md ops T f p listed = true → listed.getD T true = false → S w → wpTPlan P ops Q S p a w → wpAnyF P md ops Q S T f listed a w
  | f + 1, .read i p, listed, a, w, hB, hT, hS, h => by
    rw [tplanB, Bool.and_eq_true] at hB
    obtain ⟨h1, h2⟩ := hB
    rw [wpTPlan] at h
    cases ho : ops[i]? with
    | none => simp [ho] at h1
    | some o =>
      simp only [ho, Bool.and_eq_true] at h h1
      obtain ⟨v, hy, hr⟩ := h
      obtain ⟨⟨⟨h3, h4⟩, h5⟩, h6⟩ := h1
      have hiT : i ≠ T := by simpa using h6
      exact anyF_first ho (Region.noSelect_spec hns) (fun c a w => hQ c a o.dst v w) h5 hiT f listed a w (Region.free_spec ho h4) (by simpa using h3) hy hS hT (tplan_anyF hns hQ f p _ _ w h2 (by rw [getD_set_ne true hiT]; exact hT) hS hr)
  | f + 1, .one i p, listed, a, w, hB, hT, hS, h => by
    rw [tplanB, Bool.and_eq_true, Bool.and_eq_true, beq_iff_eq] at hB
    obtain ⟨⟨h1, h6⟩, h2⟩ := hB
    have hiT : i ≠ T := by simpa using h6
    refine ⟨fun h0 => (by rw [h1] at h0; cases h0), fun j hj => ?_⟩
    rw [h1] at hj
    obtain rfl : j = i := by simpa using hj
    rw [wpTPlan] at h
    exact wpOp_mono (fun a' w' ⟨hs, hp⟩ => ⟨fun _ => hs, tplan_anyF hns hQ f p _ a' w' h2 (by rw [getD_set_ne true hiT]; exact hT) hs hp⟩) (wpOneAt_op h)
  | f + 1, .two i j p q, listed, a, w, hB, hT, hS, h => by
    rw [tplanB, Bool.and_eq_true, Bool.and_eq_true, Bool.and_eq_true, Bool.and_eq_true, beq_iff_eq] at hB
    obtain ⟨⟨⟨⟨h1, h6⟩, h7⟩, h2⟩, h3⟩ := hB
    have hiT : i ≠ T := by simpa using h6
    have hjT : j ≠ T := by simpa using h7
    refine ⟨fun h0 => (by rw [h1] at h0; cases h0), fun k hk => ?_⟩
    rw [h1] at hk
    rw [wpTPlan] at h
    obtain ⟨ha, hb⟩ := h
    have hk2 : k = i ∨ k = j := by simpa using hk
    rcases hk2 with rfl | rfl
    · exact wpOp_mono (fun a' w' ⟨hs, hp⟩ => ⟨fun _ => hs, tplan_anyF hns hQ f p _ a' w' h2 (by rw [getD_set_ne true hiT]; exact hT) hs hp⟩) (wpOneAt_op ha)
    · exact wpOp_mono (fun a' w' ⟨hs, hp⟩ => ⟨fun _ => hs, tplan_anyF hns hQ f q _ a' w' h3 (by rw [getD_set_ne true hjT]; exact hT) hs hp⟩) (wpOneAt_op hb)
  | f + 1, .free i p, listed, a, w, hB, hT, hS, h => by
    rw [tplanB, Bool.and_eq_true] at hB
    obtain ⟨h1, h2⟩ := hB
    rw [wpTPlan] at h
    cases ho : ops[i]? with
    | none => simp [ho] at h1
    | some o =>
      simp only [ho, Bool.and_eq_true] at h h1
      obtain ⟨v, hy, hr⟩ := h
      obtain ⟨⟨h3, h4⟩, h6⟩ := h1
      have hiT : i ≠ T := by simpa using h6
      exact anyF_free ho (Region.noSelect_spec hns) (fun c a w => hQ c a o.dst v w) hiT f listed a w (Region.free_spec ho h4) (by simpa using h3) hy (fun _ => hS) (tplan_anyF hns hQ f p _ _ w h2 (by rw [getD_set_ne true hiT]; exact hT) hS hr)
  | f + 1, .tail i p, listed, a, w, hB, hT, hS, h => by
    rw [tplanB, Bool.and_eq_true, Bool.and_eq_true, beq_iff_eq, beq_iff_eq] at hB
    obtain ⟨⟨h1, rfl⟩, h2⟩ := hB
    refine ⟨fun h0 => (by rw [h1] at h0; cases h0), fun j hj => ?_⟩
    rw [h1] at hj
    obtain rfl : j = i := by simpa using hj
    rw [wpTPlan] at h
    have hl : (listed.setIfInBounds j true).getD j true = true := by
      by_cases hlt : j < listed.size
      · simp [hlt]
      · simp [Array.getElem?_eq_none (Nat.le_of_not_lt hlt)] at hT
    exact wpOp_mono (fun a' w' hp => ⟨fun hf => (by rw [hl] at hf; cases hf), held_anyF f _ a' w' hl (plan_anyH hns hQ f p _ a' w' h2 trivial hp)⟩) (wpOneAt_op h)
  | 0, .read .., _, _, _, hB, _, _, _ => by simp [tplanB] at hB
  | 0, .one .., _, _, _, hB, _, _, _ => by simp [tplanB] at hB
  | 0, .two .., _, _, _, hB, _, _, _ => by simp [tplanB] at hB
  | 0, .tail .., _, _, _, hB, _, _, _ => by simp [tplanB] at hB
  | 0, .free .., _, _, _, hB, _, _, _ => by simp [tplanB] at hB

theorem wp_region_tplan {id : Nat} {a : Act} {w : World} (p : TPlan) (S : World → Prop) (T : Nat) (hm : P.follows .mixedOrders = true) (hns : Region.noSelect ops = true) (hB : tplanB .any ops T ops.size p (Array.replicate ops.size false) = true) (hT : (Array.replicate ops.size false).getD T true = false)
    (hQ : ∀ c a d v w, Q (.panic c) (Act.put a (some d) v) w → Q (.panic c) a w) (hS : S w.drew) (h : wpTPlan P ops Q S p a w.drew) : (Code.region id ops true).wp P Q a w :=
  wp_region_held (S := fun _ => True) hm (anyF_held _ _ _ _ (tplan_anyF hns (fun c a d v w hp => match d, hp with | none, hp => hp | some d, hp => hQ c a d v w hp) _ p (Array.replicate ops.size false) a w.drew hB hT hS h))

theorem tplan_read {i : Nat} {o : Oper} {p : TPlan} {a : Act} {w : World} (ho : ops[i]? = some o) (hrd : reads o = true)
    (h : wpQuiet P ops S (fun a' => wpTPlan P ops Q S p a' w) [o] a) : wpTPlan P ops Q S (.read i p) a w := by
  rw [wpTPlan]
  simp only [ho]
  unfold wpQuiet at h
  split at h
  · rename_i hw
    obtain ⟨v, hv, hn⟩ := h
    refine ⟨v, .inl ⟨hw, fun w' hS => ?_⟩, hn⟩
    have h1 := hv w' hS
    unfold Oper.quietAt at h1
    have h2 := isVal_reads a.eval o hrd P w'
    generalize (execOp a.eval o).run P w' = res at *
    cases res with
    | ok n x =>
      obtain ⟨u, rfl⟩ := h2 x n rfl
      simp only [Oper.quietUpon] at h1
      exact ⟨h1.2, h1.1⟩
    | halt y x => simp only [Oper.quietUpon] at h1
  · rename_i hw
    exact ⟨undef, .inr ⟨by simpa using hw, rfl⟩, h⟩
theorem tplan_free {i : Nat} {o : Oper} {p : TPlan} {a : Act} {w : World} (ho : ops[i]? = some o) (hw : Region.wanted o (yielded ops a.tmps) = true) (v : Value) (hrun : ∀ w', (execOp a.eval o).run P w' = .ok (.value v) w')
    (h : wpTPlan P ops Q S p (a.put o.dst v) w) : wpTPlan P ops Q S (.free i p) a w := by
  rw [wpTPlan]
  simp only [ho]
  exact ⟨v, .inl ⟨hw, fun w' _ => by rw [hrun w']; exact ⟨rfl, rfl⟩⟩, h⟩
theorem tplan_run {i : Nat} {o : Oper} {p : TPlan} {a : Act} {w : World} (ho : ops[i]? = some o) (hw : Region.wanted o (yielded ops a.tmps) = true) (v : Value) (hrun : ∀ w', S w' → (execOp a.eval o).run P w' = .ok (.value v) w')
    (h : wpTPlan P ops Q S p (a.put o.dst v) w) : wpTPlan P ops Q S (.read i p) a w := by
  rw [wpTPlan]
  simp only [ho]
  exact ⟨v, .inl ⟨hw, fun w' hS => by rw [hrun w' hS]; exact ⟨rfl, rfl⟩⟩, h⟩
theorem tplan_load {i : Nat} {o : Oper} {p : TPlan} {a : Act} {w : World} (ho : ops[i]? = some o) {ty : TypeId} {x : Operand} (hop : o.op = .load ty x) (hw : Region.wanted o (yielded ops a.tmps) = true) (ad : Addr) (hx : a.eval x = .pointer (some ad)) (v : Value) (hrun : ∀ w', S w' → (loadVar ty ad).run P w' = .ok v w')
    (h : wpTPlan P ops Q S p (a.put o.dst v) w) : wpTPlan P ops Q S (.read i p) a w :=
  tplan_run ho hw v (fun w' hS => by
    unfold execOp
    simp only [hop, hx, Instr.loadAt, Instr.sureAddr, Sem.run_bind, Sem.run_pure, Result.andThen_ok, hrun w' hS]) h
theorem oneAtK {K0 : Act → World → Prop} {i : Nat} {o : Oper} {a : Act} {w : World} (ho : ops[i]? = some o)
    (h : ∀ K : Act → World → Prop, (∀ a' w', K0 a' w' → K a' w') → wpList P ops (QK K Q) [o] a w) : wpOneAt P ops Q i K0 a w := by
  unfold wpOneAt
  rw [ho]
  dsimp only
  have h1 := h K0 (fun a' w' hs => hs)
  unfold wpOne
  unfold wpList at h1
  split at h1
  · rename_i hw
    rw [if_pos hw]
    exact h1.imp (fun h2 => upon_QK h2) id
  · rename_i hw
    rw [if_neg hw]
    exact h1
theorem tplan_one {i : Nat} {o : Oper} {p : TPlan} {a : Act} {w : World} (ho : ops[i]? = some o)
    (h : ∀ K : Act → World → Prop, (∀ a' w', S w' → wpTPlan P ops Q S p a' w' → K a' w') → wpList P ops (QK K Q) [o] a w) : wpTPlan P ops Q S (.one i p) a w := by
  rw [wpTPlan]
  exact oneAtK ho fun K hK => h K fun a' w' hs hp => hK a' w' ⟨hs, hp⟩
theorem tplan_two {i j : Nat} {oi oj : Oper} {p q : TPlan} {a : Act} {w : World} (hi : ops[i]? = some oi) (hj : ops[j]? = some oj)
    (h : ∀ K : Act → World → Prop, (∀ a' w', S w' → wpTPlan P ops Q S p a' w' → K a' w') → wpList P ops (QK K Q) [oi] a w)
    (h2 : ∀ K : Act → World → Prop, (∀ a' w', S w' → wpTPlan P ops Q S q a' w' → K a' w') → wpList P ops (QK K Q) [oj] a w) : wpTPlan P ops Q S (.two i j p q) a w := by
  rw [wpTPlan]
  exact ⟨oneAtK hi fun K hK => h K fun a' w' hs hp => hK a' w' ⟨hs, hp⟩, oneAtK hj fun K hK => h2 K fun a' w' hs hp => hK a' w' ⟨hs, hp⟩⟩
theorem tplan_tail {i : Nat} {o : Oper} {p : MPlan} {a : Act} {w : World} (ho : ops[i]? = some o)
    (h : ∀ K : Act → World → Prop, (∀ a' w', wpPlan P ops Q (fun _ => True) p a' w' → K a' w') → wpList P ops (QK K Q) [o] a w) : wpTPlan P ops Q S (.tail i p) a w := by
  rw [wpTPlan]
  exact oneAtK ho h
end
end Go.Proofs.YtckkmdigmecagaaGreatDoor

/-
  The document's Read: what it tells, and what stands on its way.
-/
namespace Go.Proofs.YtckkmdigmecagaaGreatDoor
open Go.RowKit

/-- What was read, as a value. -/
def toldW (L : Option Addr) (nL cL : Nat) (E : Option Addr) (nE cE : Nat) (er : Int) (ov : Bool) : Array Value := #[.slice L nL cL, .slice E nE cE, .int .i64 er, .int .i64 0, .bool ov]
theorem zero_told : (Tryz.prog.info? 37).map (·.zero) = some (some (.agg (toldW none 0 0 none 0 0 0 false))) := by kernel_rfl
theorem size_told0 : (Tryz.prog.info? 37).map (·.size) = some 5 := by kernel_rfl
section
variable {L E : Option Addr} {nL cL nE cE : Nat} {er : Int} {ov : Bool}
theorem size_told : (Tryz.prog.info? 37).map (·.size) = some (toldW L nL cL E nE cE er ov).size := size_told0
theorem told_one : ∀ v ∈ (toldW L nL cL E nE cE er ov).toList, v.oneCell' = true := by
  intro v hv
  simp only [toldW, List.mem_cons, List.not_mem_nil, or_false] at hv
  rcases hv with rfl | rfl | rfl | rfl | rfl <;> rfl
theorem load_told {w : World} {q : Nat} {t : TypeId} {fr : Nat × Nat} (h : w.heap[q]? = some (.cells (toldW L nL cL E nE cE er ov) t fr)) : (loadVar 37 ⟨q, 0, none⟩).run Tryz.prog w = .ok (.agg (toldW L nL cL E nE cE er ov)) w := by
  have hl := run_loadCells_list (P := Tryz.prog) w ⟨q, 0, none⟩ (toldW L nL cL E nE cE er ov).toList (fun j v hv => by
    match j, hv with
    | 0, hv => obtain rfl := Option.some.inj hv; simp [World.cell?, Addr.add, h, toldW]
    | 1, hv => obtain rfl := Option.some.inj hv; simp [World.cell?, Addr.add, h, toldW]
    | 2, hv => obtain rfl := Option.some.inj hv; simp [World.cell?, Addr.add, h, toldW]
    | 3, hv => obtain rfl := Option.some.inj hv; simp [World.cell?, Addr.add, h, toldW]
    | 4, hv => obtain rfl := Option.some.inj hv; simp [World.cell?, Addr.add, h, toldW])
  have e : (toldW L nL cL E nE cE er ov).toList.length = 5 := rfl
  rw [e] at hl
  simp [loadVar, isAgg, run_underlying Tryz.underlying37, sizeOf_run size_told0, hl, toldW]
end
/-- The chunk document's answer, as a value. -/
def ctA (u : Int) (A : Option Addr) (n c : Nat) (er : Int) : Array Value := #[.int .i64 u, .slice A n c, .int .i64 er]
theorem zero_ct : (Tryz.prog.info? 71).map (·.zero) = some (some (.agg (ctA 0 none 0 0 0))) := by kernel_rfl
theorem size_ct0 : (Tryz.prog.info? 71).map (·.size) = some 3 := by kernel_rfl
theorem size_ct {u : Int} {A : Option Addr} {n c : Nat} {er : Int} : (Tryz.prog.info? 71).map (·.size) = some (ctA u A n c er).size := size_ct0
theorem ct_one {u : Int} {A : Option Addr} {n c : Nat} {er : Int} : ∀ v ∈ (ctA u A n c er).toList, v.oneCell' = true := by
  intro v hv
  simp only [ctA, List.mem_cons, List.not_mem_nil, or_false] at hv
  rcases hv with rfl | rfl | rfl <;> rfl
/-- A body behind a head, all at once. -/
theorem after_body {y : WSt} {st : St} {l : Bs} (hb : y.bo = some st) (h3 : y.nx = 3) (h0 : st.bd = 0) (hl : y.ln = []) :
    afterL (0, y) l = if (feedP st l).2.bd ≠ 0 then ([], badW, errF (feedP st l).2.bd) else
      ((wholeF { y with bo := some (feedP st l).2 }).1.toList ++ (feedW (wholeF { y with bo := some (feedP st l).2 }).2 (l.drop (feedP st l).1)).1, (feedW (wholeF { y with bo := some (feedP st l).2 }).2 (l.drop (feedP st l).1)).2) := by
  have hy : { y with ln := [] } = y := by
    cases y
    dsimp only at hl
    rw [hl]
  unfold afterL
  rw [if_neg (by simp)]
  dsimp only
  rw [hy]
  by_cases h9 : st.nx = 9
  · rw [feedP_stop (.inl h9)]
    dsimp only
    rw [if_neg (by simp [h0])]
    have hx : { y with bo := some st } = y := by
      cases y
      dsimp only at hb
      rw [hb]
    rw [hx]
    rfl
  · have hx : { y with bo := some st } = y := by
      cases y
      dsimp only at hb
      rw [hb]
    rw [whole_open hb h9, feed_body l y st h3 hb h0 h9]
    simp
/-- What comes of a body that is told. -/
theorem after_told {M T : Bs} {fs : List Fl.Fd} {kp : Bool} {st : St} {l : Bs} (hk : Ok st) (h0 : st.bd = 0) :
    ((feedP st l).2.bd ≠ 0 → toldP (feedP st l) = (0, [], (feedP st l).2.bd) ∧ afterL (0, ⟨3, [], M, T, fs, kp, some st⟩) l = ([], badW, errF (feedP st l).2.bd)) ∧
    ((feedP st l).2.bd = 0 → (feedP st l).2.nx ≠ 9 → (toldP (feedP st l)).1 = -1 ∧ (toldP (feedP st l)).2.2 = 0 ∧ ∃ y : WSt, y.nx = 3 ∧ afterL (0, ⟨3, [], M, T, fs, kp, some st⟩) l = ([], y, 0)) ∧
    ((feedP st l).2.bd = 0 → (feedP st l).2.nx = 9 → toldP (feedP st l) = ((((feedP st l).1 : Nat) : Int), (feedP st l).2.got, 0) ∧ afterL (0, ⟨3, [], M, T, fs, kp, some st⟩) l = (⟨M, T, fs, (feedP st l).2.got, kp⟩ :: (feedW ⟨if kp then 1 else 4, [], [], [], [], false, none⟩ (l.drop (feedP st l).1)).1, (feedW ⟨if kp then 1 else 4, [], [], [], [], false, none⟩ (l.drop (feedP st l).1)).2)) := by
  have hab := after_body (y := ⟨3, [], M, T, fs, kp, some st⟩) (l := l) rfl rfl h0 rfl
  refine ⟨fun hb => ⟨?_, ?_⟩, fun hb h9 => ⟨?_, ?_, ?_⟩, fun hb h9 => ⟨?_, ?_⟩⟩
  · unfold toldP
    rw [if_neg hb]
  · rw [hab, if_pos hb]
  · unfold toldP
    rw [if_pos hb, if_neg h9]
  · unfold toldP
    rw [if_pos hb]
  · rw [if_neg (by simp [hb])] at hab
    rw [whole_open rfl h9, feedP_all l st h9 hb] at hab
    refine ⟨⟨3, [], M, T, fs, kp, some (feedP st l).2⟩, rfl, hab.trans ?_⟩
    rw [List.drop_length]
    rfl
  · unfold toldP
    rw [if_pos hb, if_pos h9]
  · rw [if_neg (by simp [hb]), whole_done rfl rfl h9] at hab
    rw [hab]
    simp

theorem emptyJ_bad {M T : Bs} {fs : List Fl.Fd} {E : Int} (h : emptyF fs = (E, none)) : emptyJ M T fs = (E, hdW M T fs) := by
  unfold emptyJ
  rw [h]
  split
  · rename_i heq
    cases (Prod.mk.inj heq).2
  · rename_i heq
    rw [(Prod.mk.inj heq).1]
theorem emptyJ_ok {M T : Bs} {fs : List Fl.Fd} {st : St} (h : emptyF fs = (0, some st)) : emptyJ M T fs = (0, ⟨3, [], M, T, fs, !closesF fs, some st⟩) := by
  unfold emptyJ
  rw [h]
  rfl
theorem eint : ElemT Tryz.prog 35 3 (.int .i64 0) 1 8 := ElemT.of Tryz.underlying35 (by kernel_rfl) rfl (by omega)
def overW (y : WSt) (e : Int) : Bool := decide (y.nx = 4) || decide (e ≠ 0)
/-- What comes of all of some bytes. -/
def Readed (s : Bs) (w : World) (e : Ending) (w' : World) : Prop :=
  ∃ L nL cL E nE cE l, e = .returned (.agg (toldW L nL cL E nE cE (feedW newW s).2.2 (overW (feedW newW s).2.1 (feedW newW s).2.2))) ∧ Reqs w' w.heap.size L nL cL l ∧ l.map (·.1) = (feedW newW s).1 ∧ Below w.heap.size w w'
structure RInv (s : Bs) (w : World) (r0 r1 : Nat) (wr : World) (p : Nat) (L : Option Addr) (nL cL : Nat) (E : Option Addr) (nE cE : Nat) (zs : List Int) (l : List RP) : Prop where
  g0 : wr.heap[r0]? = some (.cells (toldW none 0 0 none 0 0 0 false) 37 (0, 0))
  g1 : wr.heap[r1]? = some (.cells (toldW L nL cL E nE cE 0 false) 37 (0, 0))
  rq : Reqs wr (r1 + 1) L nL cL l
  en : Own wr (r1 + 1) 3 1 E nE cE (zs.map (Value.int .i64))
  le : ∀ k, blk E = some k → k ∉ reqB L l
  eq : feedW newW s = (l.map (·.1) ++ (feedW newW (s.drop p)).1, (feedW newW (s.drop p)).2)
  bel : Below w.heap.size w wr
  nn : nE = nL ∧ nL ≤ p
  pl : p ≤ s.length
theorem RInv.below {s : Bs} {w : World} {r0 r1 : Nat} {wr w2 : World} {p : Nat} {L : Option Addr} {nL cL : Nat} {E : Option Addr} {nE cE : Nat} {zs : List Int} {l : List RP} (h : RInv s w r0 r1 wr p L nL cL E nE cE zs l) (hb : Below wr.heap.size wr w2) : RInv s w r0 r1 w2 p L nL cL E nE cE zs l :=
  ⟨(hb.block _ (Array.getElem?_eq_some_iff.1 h.g0).1).trans h.g0, (hb.block _ (Array.getElem?_eq_some_iff.1 h.g1).1).trans h.g1, h.rq.below hb, h.en.below hb, h.le, h.eq, h.bel.trans (hb.mono h.bel.size), h.nn, h.pl⟩
/-- The end, without an error. -/
theorem rinv_end {s : Bs} {w : World} {r0 r1 : Nat} {wr wz : World} {p : Nat} {L : Option Addr} {nL cL : Nat} {E : Option Addr} {nE cE : Nat} {zs : List Int} {l : List RP} (h : RInv s w r0 r1 wr p L nL cL E nE cE zs l) (h0 : w.heap.size ≤ r0) (h1 : r0 < r1) (hg : wr.grownBy wz (some r0)) {y : WSt} (hf : feedW newW (s.drop p) = ([], y, 0)) (h4 : y.nx ≠ 4) :
    Readed s w (.returned (.agg (toldW L nL cL E nE cE 0 false))) wz := by
  have he := h.eq
  rw [hf] at he
  refine ⟨L, nL, cL, E, nE, cE, l, ?_, ?_, by rw [he]; simp, h.bel.grown hg h.bel.size (fun q hq => by obtain rfl := Option.some.inj hq; exact h0)⟩
  · rw [he]
    have : overW y 0 = false := by simp [overW, h4]
    rw [this]
  · have hr := h.rq
    have := hr.keep (w' := wz) (fun k hk => hg.block k (hr.in_ k hk).2 (fun e => by
      have h2 := (hr.in_ k hk).1
      have h3 := Option.some.inj e
      omega))
    exact ⟨this.row.mono (by omega), fun q hq => ⟨(this.each q hq).1.mono (by omega), (this.each q hq).2.mono (by omega)⟩, this.nd⟩

/-- The end, in a world that differs in the told's own block alone. -/
theorem rinv_fin {s : Bs} {w : World} {r0 r1 : Nat} {wr W wz : World} {p : Nat} {L : Option Addr} {nL cL : Nat} {E : Option Addr} {nE cE : Nat} {zs : List Int} {l : List RP} (h : RInv s w r0 r1 wr p L nL cL E nE cE zs l) (h0 : w.heap.size ≤ r0) (h1 : r0 < r1) (hk : ∀ k, k ≠ r1 → W.heap[k]? = wr.heap[k]?) (hb : Below w.heap.size w W) (hs : W.heap.size = wr.heap.size) (hg : W.grownBy wz (some r0)) {y : WSt} {er : Int} {ov : Bool} (hf : feedW newW (s.drop p) = ([], y, er)) (h4 : overW y er = ov) :
    Readed s w (.returned (.agg (toldW L nL cL E nE cE er ov))) wz := by
  have he := h.eq
  rw [hf] at he
  refine ⟨L, nL, cL, E, nE, cE, l, by rw [he, ← h4], ?_, by rw [he]; simp, hb.grown hg hb.size (fun q hq => by obtain rfl := Option.some.inj hq; exact h0)⟩
  have hr := h.rq
  have := hr.keep (w' := wz) (fun k hk' => (hg.block k (by rw [hs]; exact (hr.in_ k hk').2) (fun e => by
    have h2 := (hr.in_ k hk').1
    have h3 := Option.some.inj e
    omega)).trans (hk k (by have := (hr.in_ k hk').1; omega)))
  exact ⟨this.row.mono (by omega), fun q hq => ⟨(this.each q hq).1.mono (by omega), (this.each q hq).2.mono (by omega)⟩, this.nd⟩
/-- The stores of an error. -/
theorem told_stores {wr : World} {r0 r1 : Nat} {L : Option Addr} {nL cL : Nat} {E : Option Addr} {nE cE : Nat} {er0 : Int} {w : World} (g0 : wr.heap[r0]? = some (.cells (toldW none 0 0 none 0 0 0 false) 37 (0, 0))) (g1 : wr.heap[r1]? = some (.cells (toldW L nL cL E nE cE er0 false) 37 (0, 0))) (h01 : r0 < r1) (h0 : w.heap.size ≤ r0) (hb : Below w.heap.size w wr) (er : Int) :
    wr.cell? ⟨r1, 2, none⟩ = some (.int .i64 er0) ∧ wr.frozen? ⟨r1, 2, none⟩ = false ∧ (wr.setCell ⟨r1, 2, none⟩ (.int .i64 er)).cell? ⟨r1, 4, none⟩ = some (.bool false) ∧ (wr.setCell ⟨r1, 2, none⟩ (.int .i64 er)).frozen? ⟨r1, 4, none⟩ = false ∧
    ((wr.setCell ⟨r1, 2, none⟩ (.int .i64 er)).setCell ⟨r1, 4, none⟩ (.bool true)).heap[r1]? = some (.cells (toldW L nL cL E nE cE er true) 37 (0, 0)) ∧ ((wr.setCell ⟨r1, 2, none⟩ (.int .i64 er)).setCell ⟨r1, 4, none⟩ (.bool true)).heap[r0]? = some (.cells (toldW none 0 0 none 0 0 0 false) 37 (0, 0)) ∧
    (∀ k, k ≠ r1 → ((wr.setCell ⟨r1, 2, none⟩ (.int .i64 er)).setCell ⟨r1, 4, none⟩ (.bool true)).heap[k]? = wr.heap[k]?) ∧ Below w.heap.size w ((wr.setCell ⟨r1, 2, none⟩ (.int .i64 er)).setCell ⟨r1, 4, none⟩ (.bool true)) ∧ ((wr.setCell ⟨r1, 2, none⟩ (.int .i64 er)).setCell ⟨r1, 4, none⟩ (.bool true)).heap.size = wr.heap.size := by
  have a1 : (wr.setCell ⟨r1, 2, none⟩ (.int .i64 er)).heap[r1]? = some (.cells (toldW L nL cL E nE cE er false) 37 (0, 0)) := setc_same _ g1
  have a2 : ((wr.setCell ⟨r1, 2, none⟩ (.int .i64 er)).setCell ⟨r1, 4, none⟩ (.bool true)).heap[r1]? = some (.cells (toldW L nL cL E nE cE er true) 37 (0, 0)) := setc_same _ a1
  have hk : ∀ k, k ≠ r1 → ((wr.setCell ⟨r1, 2, none⟩ (.int .i64 er)).setCell ⟨r1, 4, none⟩ (.bool true)).heap[k]? = wr.heap[k]? := fun k hk => (setc_other hk.symm).trans (setc_other hk.symm)
  exact ⟨cell_of g1 rfl, frozen_of g1, cell_of a1 rfl, frozen_of a1, a2, (hk r0 (by omega)).trans g0, hk, (hb.setCell (by show w.heap.size ≤ r1; omega) _).setCell (by show w.heap.size ≤ r1; omega) _, by simp⟩

/-- What stands behind a head and its body. -/
structure RMid (s : Bs) (w : World) (r1 : Nat) (wx : World) (p : Nat) (L : Option Addr) (nL cL : Nat) (E : Option Addr) (nE cE : Nat) (zs : List Int) (l : List RP) (r2 r3 : Nat) (M T : Bs) (F : Option Addr) (nF cF : Nat) (fs : List Fl.Fd) (u er : Int) (D : Option Addr) (nD cD : Nat) (got : Bs) : Prop where
  I : RInv s w w.heap.size r1 wx p L nL cL E nE cE zs l
  g2 : wx.heap[r2]? = some (.cells (reqA M T F nF cF none 0 0 true) 42 (0, 0))
  g3 : wx.heap[r3]? = some (.cells (ctA u D nD cD er) 71 (0, 0))
  oF : Own wx (r1 + 1) 44 2 F nF cF (Fl.fdL fs)
  fB : ∀ k, blk F = some k → k ∉ reqB L l ∧ blk E ≠ some k ∧ k ≠ r2 ∧ k ≠ r3
  rD : Rd wx 1 D nD cD (got.map b8)
  lt : r1 < r2 ∧ r2 < r3
  ap : ∀ k, (k ∈ reqB L l ∨ blk E = some k) → k < r2
  kL : got.length ≤ 4096

theorem told_len (r : Nat × St) : (toldP r).2.1.length ≤ r.2.got.length := by
  unfold toldP
  split
  · exact Nat.le_refl _
  · exact Nat.zero_le _
theorem rmid_mk {s : Bs} {w : World} {r1 : Nat} {w6 w8 : World} {p : Nat} {L : Option Addr} {nL cL : Nat} {E : Option Addr} {nE cE : Nat} {zs : List Int} {l : List RP} {r2 r3 : Nat} {M T : Bs} {F : Option Addr} {nF cF : Nat} {fs : List Fl.Fd} {u er : Int} {D : Option Addr} {nD cD : Nat} {got : Bs}
    (hI : RInv s w w.heap.size r1 w6 p L nL cL E nE cE zs l) (hG : w6.heap[r2]? = some (.cells (reqA M T F nF cF none 0 0 true) 42 (0, 0))) (hO : Own w6 (r1 + 1) 44 2 F nF cF (Fl.fdL fs)) (hD : Rd w6 1 D nD cD (got.map b8)) (hb : But (· = r3) w6 w8) (h3 : r2 < r3)
    (hDr : ∀ k, blk D = some k → k ≠ r3) (g3 : w8.heap[r3]? = some (.cells (ctA u D nD cD er) 71 (0, 0))) (hlt : r1 < r2) (hf : ∀ k, blk F = some k → k ∉ reqB L l ∧ blk E ≠ some k ∧ k ≠ r2 ∧ k < r2) (hap : ∀ k, (k ∈ reqB L l ∨ blk E = some k) → k < r2) (hk : got.length ≤ 4096) (h0 : w.heap.size < r1) :
    RMid s w r1 w8 p L nL cL E nE cE zs l r2 r3 M T F nF cF fs u er D nD cD got := by
  have hne : ∀ k, k < r3 → k < w6.heap.size → w8.heap[k]? = w6.heap[k]? := fun k hk1 hk2 => hb.block k hk2 (fun e => by have : k = r3 := e; omega)
  have hlt0 := (Array.getElem?_eq_some_iff.1 hI.g0).1
  have hlt1 := (Array.getElem?_eq_some_iff.1 hI.g1).1
  have hlt2 := (Array.getElem?_eq_some_iff.1 hG).1
  refine ⟨⟨(hne _ (by omega) hlt0).trans hI.g0, (hne _ (by omega) hlt1).trans hI.g1, hI.rq.keep fun k hk => hne k (by have := hap k (.inl hk); omega) (hI.rq.in_ k hk).2, hI.en.keep fun k hk _ h => hne k (by have := hap k (.inr hk); omega) h, hI.le, hI.eq, hI.bel.trans (hb.below (B := w.heap.size) (fun i hi => by have : i = r3 := hi; omega) hI.bel.size), hI.nn, hI.pl⟩, (hne _ (by omega) hlt2).trans hG, g3, hO.keep fun k hk _ h => hne k (by have := (hf k hk).2.2.2; omega) h, fun k hk => ?_, ?_, ⟨hlt, h3⟩, hap, hk⟩
  · obtain ⟨a1, a2, a3, a4⟩ := hf k hk
    exact ⟨a1, a2, a3, by omega⟩
  · exact hD.keep fun k hk h => hb.block k h (fun e => hDr k hk e)

/-- What stands when a request is whole. -/
structure RNow (s : Bs) (w : World) (r1 : Nat) (wx : World) (p : Nat) (L : Option Addr) (nL cL : Nat) (E : Option Addr) (nE cE : Nat) (zs : List Int) (l : List RP) (r2 : Nat) (M T : Bs) (F : Option Addr) (nF cF : Nat) (fs : List Fl.Fd) (D : Option Addr) (nD cD : Nat) (got : Bs) (kp : Bool) : Prop where
  I : RInv s w w.heap.size r1 wx p L nL cL E nE cE zs l
  g2 : wx.heap[r2]? = some (.cells (reqA M T F nF cF D nD cD kp) 42 (0, 0))
  oF : Own wx (r1 + 1) 44 2 F nF cF (Fl.fdL fs)
  oD : Own wx (r1 + 1) 5 1 D nD cD (got.map b8)
  fB : ∀ k, blk F = some k → k ∉ reqB L l ∧ blk E ≠ some k ∧ k ≠ r2 ∧ blk D ≠ some k
  dB : ∀ k, blk D = some k → k ∉ reqB L l ∧ blk E ≠ some k ∧ k ≠ r2
  lt : r1 < r2
  ap : ∀ k, (k ∈ reqB L l ∨ blk E = some k) → k < r2
/-- A world in which two cells stand as they did. -/
structure K2 (w : World) (a b : Addr) where
  at' : World
  s1 : at'.cell? a = w.cell? a
  s2 : at'.cell? b = w.cell? b
instance (w : World) (a b : Addr) : Nonempty (K2 w a b) := ⟨⟨w, rfl, rfl⟩⟩

theorem k2_of {w w' : World} {g1 g2 i j : Nat} (hb : Below w.heap.size w w') (h1 : g1 < w.heap.size) (h2 : g2 < w.heap.size) : ∃ b : K2 w ⟨g1, i, none⟩ ⟨g2, j, none⟩, w' = b.at' := ⟨⟨w', World.cell?_of_block (hb.block _ h1), World.cell?_of_block (hb.block _ h2)⟩, rfl⟩
/-- The body and the mark are stored. -/
theorem rnow_mk {s : Bs} {w : World} {r1 : Nat} {w8 : World} {p : Nat} {L : Option Addr} {nL cL : Nat} {E : Option Addr} {nE cE : Nat} {zs : List Int} {l : List RP} {r2 : Nat} {M T : Bs} {F : Option Addr} {nF cF : Nat} {fs : List Fl.Fd} {D : Option Addr} {nD cD r3 : Nat} {got : Bs} {kp : Bool}
    (hI : RInv s w w.heap.size r1 w8 p L nL cL E nE cE zs l) (hG : w8.heap[r2]? = some (.cells (reqA M T F nF cF none 0 0 true) 42 (0, 0))) (hF : Own w8 (r1 + 1) 44 2 F nF cF (Fl.fdL fs)) (hD : Own w8 (r1 + 1) 5 1 D nD cD (got.map b8))
    (hfB : ∀ k, blk F = some k → k ∉ reqB L l ∧ blk E ≠ some k ∧ k ≠ r2 ∧ k ≠ r3) (hdB : ∀ k, blk D = some k → k ∉ reqB L l ∧ blk E ≠ some k ∧ k ≠ r2 ∧ blk F ≠ some k) (hlt : r1 < r2) (hap : ∀ k, (k ∈ reqB L l ∨ blk E = some k) → k < r2) (h0 : w.heap.size < r1) :
    RNow s w r1 ((w8.setCell ⟨r2, 3, none⟩ (.slice D nD cD)).setCell ⟨r2, 4, none⟩ (.bool kp)) p L nL cL E nE cE zs l r2 M T F nF cF fs D nD cD got kp := by
  have hk : ∀ k, k ≠ r2 → ((w8.setCell ⟨r2, 3, none⟩ (.slice D nD cD)).setCell ⟨r2, 4, none⟩ (.bool kp)).heap[k]? = w8.heap[k]? := fun k hk => (setc_other hk.symm).trans (setc_other hk.symm)
  have a1 : (w8.setCell ⟨r2, 3, none⟩ (.slice D nD cD)).heap[r2]? = some (.cells (reqA M T F nF cF D nD cD true) 42 (0, 0)) := setc_same _ hG
  refine ⟨⟨(hk _ (by omega)).trans hI.g0, (hk _ (by omega)).trans hI.g1, hI.rq.keep fun k h => hk k (by have := hap k (.inl h); omega), hI.en.keep fun k h _ _ => hk k (by have := hap k (.inr h); omega), hI.le, hI.eq, (hI.bel.setCell (by show w.heap.size ≤ r2; omega) _).setCell (by show w.heap.size ≤ r2; omega) _, hI.nn, hI.pl⟩, setc_same _ a1, hF.keep fun k h _ _ => hk k (hfB k h).2.2.1, hD.keep fun k h _ _ => hk k (hdB k h).2.2.1, fun k h => ⟨(hfB k h).1, (hfB k h).2.1, (hfB k h).2.2.1, fun e => (hdB k e).2.2.2 h⟩, fun k h => ⟨(hdB k h).1, (hdB k h).2.1, (hdB k h).2.2.1⟩, hlt, hap⟩

/-- A world in which two cells and a block stand as they did. -/
structure K3 (w : World) (a b : Addr) (g : Nat) where
  at' : World
  s1 : at'.cell? a = w.cell? a
  s2 : at'.cell? b = w.cell? b
  s3 : at'.heap[g]? = w.heap[g]?
instance (w : World) (a b : Addr) (g : Nat) : Nonempty (K3 w a b g) := ⟨⟨w, rfl, rfl, rfl⟩⟩
/-- The blocks that the two rows may change. -/
def LEB (L E : Option Addr) (k : Nat) : Prop := blk L = some k ∨ blk E = some k
theorem k3_of {w w' : World} {L E : Option Addr} {g1 g2 i j : Nat} (hb : But (LEB L E) w w') (h1 : g1 < w.heap.size) (h2 : g2 < w.heap.size) (n1 : ¬ LEB L E g1) (n2 : ¬ LEB L E g2) : ∃ b : K3 w ⟨g1, i, none⟩ ⟨g1, j, none⟩ g2, w' = b.at' :=
  ⟨⟨w', World.cell?_of_block (hb.block _ h1 n1), World.cell?_of_block (hb.block _ h1 n1), hb.block _ h2 n2⟩, rfl⟩
theorem read_last {s : Bs} {w W wz : World} {r0 r1 : Nat} {L : Option Addr} {nL cL : Nat} {E : Option Addr} {nE cE : Nat} {l : List RP} (hr : Reqs W (r1 + 1) L nL cL l) (h0 : w.heap.size ≤ r0) (h1 : r0 < r1) (hb : Below w.heap.size w W) (hg : W.grownBy wz (some r0)) {y : WSt} {er : Int} {ov : Bool} (he : feedW newW s = (l.map (·.1), y, er)) (h4 : overW y er = ov) :
    Readed s w (.returned (.agg (toldW L nL cL E nE cE er ov))) wz := by
  refine ⟨L, nL, cL, E, nE, cE, l, by rw [he, ← h4], ?_, by rw [he], hb.grown hg hb.size (fun q hq => by obtain rfl := Option.some.inj hq; exact h0)⟩
  have := hr.keep (w' := wz) (fun k hk => hg.block k (hr.in_ k hk).2 (fun e => by
    have h2 := (hr.in_ k hk).1
    have h3 := Option.some.inj e
    omega))
  exact ⟨this.row.mono (by omega), fun q hq => ⟨(this.each q hq).1.mono (by omega), (this.each q hq).2.mono (by omega)⟩, this.nd⟩
/-- A request more: what stands behind the two stores. -/
theorem rnext {s : Bs} {w : World} {r1 : Nat} {wc W : World} {p : Nat} {L : Option Addr} {nL cL : Nat} {E : Option Addr} {nE cE : Nat} {zs : List Int} {l : List RP} {r2 : Nat} {M T : Bs} {F : Option Addr} {nF cF : Nat} {fs : List Fl.Fd} {D : Option Addr} {nD cD : Nat} {got : Bs} {kp : Bool} {L' E' : Option Addr} {cL' cE' nL' nE' : Nat} {v : Int}
    (hN : RNow s w r1 wc p L nL cL E nE cE zs l r2 M T F nF cF fs D nD cD got kp) (h0 : w.heap.size < r1) (hb : But (LEB L E) wc W)
    (hl : Own W (r1 + 1) 42 5 L' nL' cL' (rqL l ++ (RP.arr (⟨M, T, fs, got, kp⟩, ⟨F, nF, cF, D, nD, cD⟩)).toList)) (hL : blk L' = blk L ∨ ∀ k, blk L' = some k → wc.heap.size ≤ k)
    (he : Own W (r1 + 1) 3 1 E' nE' cE' (zs.map (Value.int .i64) ++ [.int .i64 v])) (hE : blk E' = blk E ∨ ∀ k, blk E' = some k → wc.heap.size ≤ k) (hLE : ∀ k, blk L' = some k → blk E' ≠ some k) :
    W.cell? ⟨r1, 0, none⟩ = some (.slice L nL cL) ∧ W.frozen? ⟨r1, 0, none⟩ = false ∧ (W.setCell ⟨r1, 0, none⟩ (.slice L' nL' cL')).cell? ⟨r1, 1, none⟩ = some (.slice E nE cE) ∧ (W.setCell ⟨r1, 0, none⟩ (.slice L' nL' cL')).frozen? ⟨r1, 1, none⟩ = false ∧
    (let X := (W.setCell ⟨r1, 0, none⟩ (.slice L' nL' cL')).setCell ⟨r1, 1, none⟩ (.slice E' nE' cE')
     X.heap[w.heap.size]? = some (.cells (toldW none 0 0 none 0 0 0 false) 37 (0, 0)) ∧ X.heap[r1]? = some (.cells (toldW L' nL' cL' E' nE' cE' 0 false) 37 (0, 0)) ∧ Reqs X (r1 + 1) L' nL' cL' (l ++ [(⟨M, T, fs, got, kp⟩, ⟨F, nF, cF, D, nD, cD⟩)]) ∧ Own X (r1 + 1) 3 1 E' nE' cE' ((zs ++ [v]).map (Value.int .i64)) ∧
     (∀ k, blk E' = some k → k ∉ reqB L' (l ++ [(⟨M, T, fs, got, kp⟩, ⟨F, nF, cF, D, nD, cD⟩)])) ∧ Below w.heap.size w X ∧ X.heap[r2]? = some (.cells (reqA M T F nF cF D nD cD kp) 42 (0, 0)) ∧ ∀ k, k ≠ r1 → X.heap[k]? = W.heap[k]?) := by
  have hI := hN.I
  have hnR : ∀ k, k < r1 + 1 → ¬ LEB L E k := fun k hk h => by
    rcases h with h1 | h1
    · have := (hI.rq.row.lt k h1).1
      omega
    · have := (hI.en.lt k h1).1
      omega
  have hlt0 := (Array.getElem?_eq_some_iff.1 hI.g0).1
  have hlt1 := (Array.getElem?_eq_some_iff.1 hI.g1).1
  have hlt2 := (Array.getElem?_eq_some_iff.1 hN.g2).1
  have hn2 : ¬ LEB L E r2 := fun h => by
    rcases h with h1 | h1
    · have := hN.ap r2 (.inl (List.mem_append_left _ (blk_mem h1)))
      omega
    · have := hN.ap r2 (.inr h1)
      omega
  have g0 : W.heap[w.heap.size]? = _ := (hb.block _ hlt0 (hnR _ (by omega))).trans hI.g0
  have g1 : W.heap[r1]? = _ := (hb.block _ hlt1 (hnR _ (by omega))).trans hI.g1
  have g2 : W.heap[r2]? = _ := (hb.block _ hlt2 hn2).trans hN.g2
  have a1 : (W.setCell ⟨r1, 0, none⟩ (.slice L' nL' cL')).heap[r1]? = some (.cells (toldW L' nL' cL' E nE cE 0 false) 37 (0, 0)) := setc_same _ g1
  have hk : ∀ k, k ≠ r1 → ((W.setCell ⟨r1, 0, none⟩ (.slice L' nL' cL')).setCell ⟨r1, 1, none⟩ (.slice E' nE' cE')).heap[k]? = W.heap[k]? := fun k hk => (setc_other hk.symm).trans (setc_other hk.symm)
  have hnd := hI.rq.nd
  rw [List.nodup_append] at hnd
  obtain ⟨n1, n2, n3⟩ := hnd
  have hLf : ∀ k, blk L = some k → k < wc.heap.size := fun k h => (hI.rq.row.lt k h).2
  have hEf : ∀ k, blk E = some k → k < wc.heap.size := fun k h => (hI.en.lt k h).2
  have hold : ∀ k ∈ l.flatMap RP.blocks, k < wc.heap.size ∧ ¬ LEB L E k ∧ r1 + 1 ≤ k := fun k h => by
    have h1 := hI.rq.in_ k (List.mem_append_right _ h)
    refine ⟨h1.2, fun h2 => ?_, h1.1⟩
    rcases h2 with h3 | h3
    · exact n3 k (blk_mem h3) k h rfl
    · exact hI.le k h3 (List.mem_append_right _ h)
  have hPB : ∀ k ∈ RP.blocks ((⟨M, T, fs, got, kp⟩, ⟨F, nF, cF, D, nD, cD⟩) : RP), k < wc.heap.size ∧ ¬ LEB L E k ∧ r1 + 1 ≤ k ∧ k ∉ reqB L l := fun k h => by
    rcases List.mem_append.1 h with h1 | h1
    · have h2 : blk F = some k := by simpa using h1
      obtain ⟨b1, b2, b3, b4⟩ := hN.fB k h2
      exact ⟨(hN.oF.lt k h2).2, fun h5 => h5.elim (fun h6 => b1 (List.mem_append_left _ (blk_mem h6))) b2, (hN.oF.lt k h2).1, b1⟩
    · have h2 : blk D = some k := by simpa using h1
      obtain ⟨b1, b2, b3⟩ := hN.dB k h2
      exact ⟨(hN.oD.lt k h2).2, fun h5 => h5.elim (fun h6 => b1 (List.mem_append_left _ (blk_mem h6))) b2, (hN.oD.lt k h2).1, b1⟩
  have hXk : ∀ k, k < wc.heap.size → ¬ LEB L E k → r1 + 1 ≤ k → ((W.setCell ⟨r1, 0, none⟩ (.slice L' nL' cL')).setCell ⟨r1, 1, none⟩ (.slice E' nE' cE')).heap[k]? = wc.heap[k]? := fun k h1 h2 h3 => (hk k (by omega)).trans (hb.block k h1 h2)
  have hLn : ∀ k, blk L' = some k → ∀ q ∈ l.flatMap RP.blocks ++ RP.blocks ((⟨M, T, fs, got, kp⟩, ⟨F, nF, cF, D, nD, cD⟩) : RP), k ≠ q := fun k h q hq e => by
    subst e
    have h1 : k < wc.heap.size ∧ ¬ LEB L E k := by
      rcases List.mem_append.1 hq with h2 | h2
      · exact ⟨(hold k h2).1, (hold k h2).2.1⟩
      · exact ⟨(hPB k h2).1, (hPB k h2).2.1⟩
    rcases hL with h2 | h2
    · exact h1.2 (.inl (h2.symm.trans h))
    · have := h2 k h
      omega
  refine ⟨cell_of g1 rfl, frozen_of g1, cell_of a1 rfl, frozen_of a1, (hk _ (by omega)).trans g0, setc_same _ a1, ⟨?_, fun q hq => ?_, ?_⟩, ?_, fun k h hm => ?_, ?_, (hk _ (by have := hN.lt; omega)).trans g2, hk⟩
  · rw [rqL_snoc]
    exact hl.keep fun k h _ _ => hk k (by have := (hl.lt k h).1; omega)
  · rcases List.mem_append.1 hq with h1 | h1
    · obtain ⟨h3, h4⟩ := hI.rq.each q h1
      exact ⟨h3.keep fun k h _ _ => by
        have := hold k (List.mem_flatMap.2 ⟨q, h1, List.mem_append_left _ (blk_mem h)⟩)
        exact hXk k this.1 this.2.1 this.2.2, h4.keep fun k h _ _ => by
        have := hold k (List.mem_flatMap.2 ⟨q, h1, List.mem_append_right _ (blk_mem h)⟩)
        exact hXk k this.1 this.2.1 this.2.2⟩
    · obtain rfl := List.mem_singleton.1 h1
      exact ⟨hN.oF.keep fun k h _ _ => by
        have := hPB k (List.mem_append_left _ (blk_mem h))
        exact hXk k this.1 this.2.1 this.2.2.1, hN.oD.keep fun k h _ _ => by
        have := hPB k (List.mem_append_right _ (blk_mem h))
        exact hXk k this.1 this.2.1 this.2.2.1⟩
  · rw [List.flatMap_append, List.nodup_append]
    have hpn : (RP.blocks ((⟨M, T, fs, got, kp⟩, ⟨F, nF, cF, D, nD, cD⟩) : RP)).Nodup := by
      unfold RP.blocks
      rw [List.nodup_append]
      refine ⟨by cases blk F <;> simp, by cases blk D <;> simp, fun a ha b hb e => ?_⟩
      subst e
      exact (hN.fB a (by simpa using ha)).2.2.2 (by simpa using hb)
    refine ⟨by cases blk L' <;> simp, ?_, fun a ha b hb e => ?_⟩
    · rw [List.nodup_append]
      refine ⟨n2, by simpa using hpn, fun a ha b hb e => ?_⟩
      subst e
      exact (hPB a (by simpa using hb)).2.2.2 (List.mem_append_right _ ha)
    · exact hLn a (by simpa using ha) b (by simpa using hb) e
  · rw [List.map_append]
    exact he.keep fun k h _ _ => hk k (by have := (he.lt k h).1; omega)
  · rcases List.mem_append.1 hm with h1 | h1
    · exact hLE k (by simpa using h1) h
    · have h2 : k ∈ l.flatMap RP.blocks ++ RP.blocks ((⟨M, T, fs, got, kp⟩, ⟨F, nF, cF, D, nD, cD⟩) : RP) := by simpa using h1
      have h3 : k < wc.heap.size ∧ ¬ LEB L E k := by
        rcases List.mem_append.1 h2 with h4 | h4
        · exact ⟨(hold k h4).1, (hold k h4).2.1⟩
        · exact ⟨(hPB k h4).1, (hPB k h4).2.1⟩
      rcases hE with h4 | h4
      · exact h3.2 (.inr (h4.symm.trans h))
      · have := h4 k h
        omega
  · have hbW : Below w.heap.size w W := hI.bel.trans (hb.below (B := w.heap.size) (fun i hi => by
      rcases hi with h1 | h1
      · have := (hI.rq.row.lt i h1).1
        omega
      · have := (hI.en.lt i h1).1
        omega) hI.bel.size)
    exact (hbW.setCell (by show w.heap.size ≤ r1; omega) _).setCell (by show w.heap.size ≤ r1; omega) _

end Go.Proofs.YtckkmdigmecagaaGreatDoor
