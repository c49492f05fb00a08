/-
  Joined texts of this claim's author (each began as a text of its own; each says itself what it holds).
-/
import Derived.Test.YtaopohacelmglaaDoorG10
import Derived.Test.YtaopohacelmglaaDoorG03
import Derived.Deep.CutRange
import Derived.Deep.CutBlock
set_option linter.unusedVariables false
set_option linter.unusedSimpArgs false

/-
  The document's answer to target: Parse.
-/
namespace Go.Proofs.YtaopohacelmglaaDoor.Tg
open Go.RowKit

/-- A target that is being filled, in block g; the answer's own block stands below it. -/
structure PSt (w : World) (B0 g : Nat) (A : Option Addr) (n c : Nat) (P : List (List UInt8)) (B : Option Addr) (m d : Nat) (Q : List Pm) (W : World) : Prop where
  res : W.heap[w.heap.size]? = some (.cells tgZ 51 (0, 0))
  tg : W.heap[g]? = some (.cells (tgA A n c B m d) 51 (0, 0))
  oA : Own W B0 9 1 A n c (P.map strV)
  oB : Own W B0 91 2 B m d (prL Q)
  ne : ∀ q, blk A = some q → blk B ≠ some q
  below : Below w.heap.size w W
  lt : w.heap.size < g
  gB : g < B0
  le : B0 ≤ W.heap.size
section
variable {w W W' : World} {B0 g : Nat} {A : Option Addr} {n c : Nat} {P : List (List UInt8)} {B : Option Addr} {m d : Nat} {Q : List Pm}
theorem PSt.go (h : PSt w B0 g A n c P B m d Q W) (hb : Below W.heap.size W W') : PSt w B0 g A n c P B m d Q W' := by
  have h1 := h.lt
  have h2 := h.gB
  have h3 := h.le
  exact ⟨(hb.block _ (by omega)).trans h.res, (hb.block _ (by omega)).trans h.tg, h.oA.below hb, h.oB.below hb, h.ne, h.below.trans (hb.mono h.below.size), h1, h2, Nat.le_trans h3 hb.size⟩
theorem PSt.lit (h : PSt w B0 g A n c P B m d Q W) {cs : Array Value} {t : TypeId} (hw : W' = W.alloc (.cells cs t)) : PSt w B0 g A n c P B m d Q W' :=
  h.go (by rw [hw]; exact (Below.refl _ _).alloc (Nat.le_refl _) _)
theorem PSt.c0 (h : PSt w B0 g A n c P B m d Q W) : W.cell? ⟨g, 0, none⟩ = some (.slice A n c) := (cell_tg h.tg).1
theorem PSt.c1 (h : PSt w B0 g A n c P B m d Q W) : W.cell? ⟨g, 1, none⟩ = some (.slice B m d) := (cell_tg h.tg).2
theorem PSt.appA (h : PSt w B0 g A n c P none 0 0 [] W) {A' : Option Addr} {n' c' : Nat} {P' : List (List UInt8)} (ho : Own W' B0 9 1 A' n' c' (P'.map strV)) (hg : W.grownBy W' (blk A)) :
    W'.heap[g]? = some (.cells (tgA A n c none 0 0) 51 (0, 0)) ∧ PSt w B0 g A' n' c' P' none 0 0 [] (W'.setCell ⟨g, 0, none⟩ (.slice A' n' c')) := by
  have h1 := h.lt
  have h2 := h.gB
  have h3 := h.le
  have hlo : ∀ k, k < B0 → some k ≠ blk A := fun k hk e => by have := (h.oA.lt k e.symm).1; omega
  have ht := (hg.block g (by omega) (hlo g h2)).trans h.tg
  have hb : Below w.heap.size w W' := h.below.grown hg h.below.size (fun q hq => by have := (h.oA.lt q hq).1; omega)
  have hs : W.heap.size ≤ W'.heap.size := hg.size
  refine ⟨ht, ⟨?_, tg_set0 ht, ho.keep fun q _ hq _ => heap_setCell_ne _ (show g ≠ q by omega), Own.nil_ _ _ _ _, (fun q _ e => by cases e), hb.setCell (p := ⟨g, 0, none⟩) (Nat.le_of_lt h1) _, h1, h2, ?_⟩⟩
  · exact (heap_setCell_ne _ (show g ≠ w.heap.size by omega)).trans ((hg.block _ (by omega) (hlo _ (by omega))).trans h.res)
  · simp
    omega
theorem PSt.appB (h : PSt w B0 g A n c P B m d Q W) {B' : Option Addr} {m' d' : Nat} {Q' : List Pm} (ho : Own W' B0 91 2 B' m' d' (prL Q')) (hg : W.grownBy W' (blk B)) (hq : blk B' = blk B ∨ blk B' = some W.heap.size) :
    W'.heap[g]? = some (.cells (tgA A n c B m d) 51 (0, 0)) ∧ PSt w B0 g A n c P B' m' d' Q' (W'.setCell ⟨g, 1, none⟩ (.slice B' m' d')) := by
  have h1 := h.lt
  have h2 := h.gB
  have h3 := h.le
  have hlo : ∀ k, k < B0 → some k ≠ blk B := fun k hk e => by have := (h.oB.lt k e.symm).1; omega
  have ht := (hg.block g (by omega) (hlo g h2)).trans h.tg
  have hb : Below w.heap.size w W' := h.below.grown hg h.below.size (fun q hq => by have := (h.oB.lt q hq).1; omega)
  have hs : W.heap.size ≤ W'.heap.size := hg.size
  have hA : Own W' B0 9 1 A n c (P.map strV) := h.oA.grown hg (fun q hq e => h.ne q hq e)
  refine ⟨ht, ⟨?_, tg_set1 ht, hA.keep fun q _ hq _ => heap_setCell_ne _ (show g ≠ q by omega), ho.keep fun q _ hq _ => heap_setCell_ne _ (show g ≠ q by omega), ?_, hb.setCell (p := ⟨g, 1, none⟩) (Nat.le_of_lt h1) _, h1, h2, ?_⟩⟩
  · exact (heap_setCell_ne _ (show g ≠ w.heap.size by omega)).trans ((hg.block _ (by omega) (hlo _ (by omega))).trans h.res)
  · intro q hqA e
    rcases hq with hq | hq
    · exact h.ne q hqA (hq ▸ e)
    · rw [hq] at e
      have := Option.some.inj e
      have := (h.oA.lt q hqA).2
      omega
  · simp
    omega
/-- The target is handed over. -/
theorem PSt.out (h : PSt w B0 g A n c P B m d Q W) {s : List UInt8} (hz : parseF s = (P, Q, 0)) (hg : W.grownBy W' (some w.heap.size)) : Parsed s w (.returned (.tuple #[.agg (tgA A n c B m d), .int .i64 0])) W' := by
  have h1 := h.lt
  have h2 := h.gB
  refine ⟨h.below.grown hg h.below.size (fun q hq => by injection hq with hq; omega), A, n, c, B, m, d, by rw [hz]; rfl, ?_, ?_⟩
  · rw [hz]
    exact (h.oA.grown hg (fun q hq e => by have := (h.oA.lt q hq).1; have := Option.some.inj e; omega)).mono (by omega)
  · rw [hz]
    exact (h.oB.grown hg (fun q hq e => by have := (h.oB.lt q hq).1; have := Option.some.inj e; omega)).mono (by omega)
theorem PSt.bad (h : PSt w B0 g A n c P B m d Q W) {s : List UInt8} {E : Nat} (hz : parseF s = ([], [], E)) (hg : W.grownBy W' (some w.heap.size)) : Parsed s w (.returned (.tuple #[.agg tgZ, .int .i64 E])) W' :=
  parsed_bad hz (h.below.grown hg h.below.size (fun q hq => by injection hq with hq; omega))
end

set_option maxRecDepth 20000 in
set_option maxHeartbeats 8000000 in
theorem RParse_no (s : List UInt8) (h : ∀ t, s ≠ 47 :: t) (w : World) : Calls Tryd.prog 25 #[.string ⟨s.toArray⟩] w (Parsed s w) := by
  have hz : parseF s = ([], [], 4) := by
    cases s with
    | nil => rfl
    | cons x t => exact parse_other t (fun e => h t (by rw [e]))
  have HE := Lib.hid hz
  rcases s with _ | ⟨x, t⟩
  · clear h hz
    go_enter Tryd.func25, Tryd.ntmps25
    go_upto_region 1 with (refine wpList_alloc_zero rfl _ rfl tgZ zero_tg ?_; intro w1 hg1 hb1 hz1)
    clear hz1
    go_wp2_with (first
      | (refine wpList_alloc_zero rfl _ rfl tgZ zero_tg ?_; intro w2 hg2 hb2 hz2; clear hz2; have hR2 := (hb2.block _ (Array.getElem?_eq_some_iff.1 hg1).1).trans hg1)
      | (refine wpList_load_all (by rfl) _ _ rfl w1.heap.size rfl _ _ _ _ hg2 Tryd.underlying51 rfl size_tg0 ?_)
      | (refine wpList_store_all rfl _ _ _ rfl w.heap.size rfl _ tgZ tgZ rfl hR2 size_tg0 rfl tg_one ?_; intro wz hgz hgrz hzz; clear hzz))
    refine bodyPost_ret (results_cell_tmp rfl _ _ w.heap.size _ _ _ _ rfl hgz Tryd.underlying51 rfl size_tg0 _ rfl) rfl ?_
    exact parsed_bad HE.out ((hb1.trans (hb2.mono hb1.size)).grown hgrz (hb1.trans (hb2.mono hb1.size)).size (fun g hg => by injection hg with hg; omega))
  · have hx : x ≠ 47 := fun e => h t (by rw [e])
    have hi : ∀ W, (Instr.index 9 (.string ⟨(x :: t).toArray⟩) (.int .i64 0)).run Tryd.prog W = .ok (.int .u8 (x.toNat : Int)) W := fun W => run_str_at (P := Tryd.prog) Tryd.underlying9 (x :: t) 0 x rfl (kl := .i64) W
    have hne := ne_int (x := x) (c := 47) (by omega) hx
    have hne' : ((x.toNat : Int) != 47) = true := by
      have : ((x.toNat : Int) == 47) = false := hne
      simp [bne, this]
    have hemp : (x :: t).isEmpty = false := rfl
    obtain ⟨X, hX⟩ : ∃ X, x :: t = X := ⟨_, rfl⟩
    rw [hX] at hi hemp HE ⊢
    clear h hz hx hne hX
    go_enter Tryd.func25, Tryd.ntmps25
    go_upto_region 1 with (refine wpList_alloc_zero rfl _ rfl tgZ zero_tg ?_; intro w1 hg1 hb1 hz1)
    clear hz1
    go_wp2_with (first
      | (refine wpList_alloc_zero rfl _ rfl tgZ zero_tg ?_; intro w2 hg2 hb2 hz2; clear hz2; have hR2 := (hb2.block _ (Array.getElem?_eq_some_iff.1 hg1).1).trans hg1)
      | (refine wpList_load_all (by rfl) _ _ rfl w1.heap.size rfl _ _ _ _ hg2 Tryd.underlying51 rfl size_tg0 ?_)
      | (refine wpList_store_all rfl _ _ _ rfl w.heap.size rfl _ tgZ tgZ rfl hR2 size_tg0 rfl tg_one ?_; intro wz hgz hgrz hzz; clear hzz))
    refine bodyPost_ret (results_cell_tmp rfl _ _ w.heap.size _ _ _ _ rfl hgz Tryd.underlying51 rfl size_tg0 _ rfl) rfl ?_
    exact parsed_bad HE.out ((hb1.trans (hb2.mono hb1.size)).grown hgrz (hb1.trans (hb2.mono hb1.size)).size (fun g hg => by injection hg with hg; omega))

set_option maxRecDepth 20000 in
set_option maxHeartbeats 8000000 in
theorem RParse_root (w : World) : Calls Tryd.prog 25 #[.string ⟨#[47]⟩] w (Parsed [47] w) := by
  have hz : parseF [47] = ([], [], 0) := by
    rw [parse_root, cont_nil]
    exact fin_path (fun p hp => by cases hp)
  have HE := Lib.hid hz
  clear hz
  go_enter Tryd.func25, Tryd.ntmps25
  go_upto_region 1 with (refine wpList_alloc_zero rfl _ rfl tgZ zero_tg ?_; intro w1 hg1 hb1 hz1)
  clear hz1
  go_wp2_with (refine wpList_alloc_zero rfl _ rfl tgZ zero_tg ?_; intro w2 hg2 hb2 hz2; clear hz2; have hR2 := (hb2.block _ (Array.getElem?_eq_some_iff.1 hg1).1).trans hg1)
  refine wp_loop_rounds 1 ?_
  rw [rounds_succ]
  go_wp2_with (first
    | (refine wpList_load_all (by rfl) _ _ rfl w1.heap.size rfl _ _ _ _ hg2 Tryd.underlying51 rfl size_tg0 ?_)
    | (refine wpList_store_all rfl _ _ _ rfl w.heap.size rfl _ tgZ tgZ rfl hR2 size_tg0 rfl tg_one ?_; intro wz hgz hgrz hzz; clear hzz))
  refine bodyPost_ret (results_cell_tmp rfl _ _ w.heap.size _ _ _ _ rfl hgz Tryd.underlying51 rfl size_tg0 _ rfl) rfl ?_
  exact parsed_bad HE.out ((hb1.trans (hb2.mono hb1.size)).grown hgrz (hb1.trans (hb2.mono hb1.size)).size (fun g hg => by injection hg with hg; omega))

set_option maxRecDepth 20000 in
set_option maxHeartbeats 8000000 in
theorem RParse_go (y : UInt8) (t : List UInt8) (hs : t.length ≤ 1048570) (w : World) : Calls Tryd.prog 25 #[.string ⟨(47 :: y :: t).toArray⟩] w (Parsed (47 :: y :: t) w) := by
  have hcase : (y = 63 ∧ parseF (47 :: y :: t) = contP [] ((47 :: y :: t).drop 1)) ∨ (y ≠ 63 ∧ parseF (47 :: y :: t) = contP [] ((47 :: y :: t).drop 0)) := by
    by_cases h : y = 63
    · subst h
      exact .inl ⟨rfl, parse_rootQ t⟩
    · exact .inr ⟨h, parse_path t h⟩
  have hi0 : ∀ W, (Instr.index 9 (.string ⟨(47 :: y :: t).toArray⟩) (.int .i64 0)).run Tryd.prog W = .ok (.int .u8 47) W := fun W => run_str_at (P := Tryd.prog) Tryd.underlying9 (47 :: y :: t) 0 47 rfl (kl := .i64) W
  have hi1 : ∀ W, (Instr.index 9 (.string ⟨(47 :: y :: t).toArray⟩) (.int .i64 1)).run Tryd.prog W = .ok (.int .u8 (y.toNat : Int)) W := fun W => run_str_at (P := Tryd.prog) Tryd.underlying9 (47 :: y :: t) 1 y rfl (kl := .i64) W
  have hemp : (47 :: y :: t).isEmpty = false := rfl
  have hsz := size_mk (47 :: y :: t)
  have hl0 : (47 :: y :: t).length = t.length + 2 := by simp
  obtain ⟨s, hX⟩ : ∃ s, 47 :: y :: t = s := ⟨_, rfl⟩
  obtain ⟨L, hL⟩ : ∃ L, s.length = L := ⟨_, rfl⟩
  rw [hX] at hi0 hi1 hemp hsz hcase hl0 ⊢
  rw [hL] at hsz hl0
  have HL := Lib.hid hL
  have HCASE := Lib.hid hcase
  have hL1 : (2 : Int) ≤ L := by omega
  have hL1' : ((L : Int) == 1) = false := by simp; omega
  have hLm : L ≤ 1048572 := by omega
  clear hX hL hl0 hcase
  go_enter Tryd.func25, Tryd.ntmps25
  go_upto_region 1 with (refine wpList_alloc_zero rfl _ rfl tgZ zero_tg ?_; intro w1 hg1 hb1 hz1)
  clear hz1
  go_upto_region 2 with (refine wpList_alloc_zero rfl _ rfl tgZ zero_tg ?_; intro w2 hg2 hb2 hz2)
  obtain ⟨g, hg⟩ : ∃ g, w1.heap.size = g := ⟨_, rfl⟩
  have hlt1 : w.heap.size < w1.heap.size := (Array.getElem?_eq_some_iff.1 hg1).1
  have hS2 : PSt w w2.heap.size g none 0 0 [] none 0 0 [] w2 := by
    rw [← hg]
    exact ⟨(hb2.block _ hlt1).trans hg1, hg2, Own.nil_ _ _ _ _, Own.nil_ _ _ _ _, (fun q h => by cases h), hb1.trans (hb2.mono hb1.size), hlt1, (Array.getElem?_eq_some_iff.1 hg2).1, Nat.le_refl _⟩
  rw [hg]
  clear hz2 hg1 hg2 hb1 hb2 hlt1 hg
  go_upto_if 29 with fail
  go_cut [5] from 30 to 30 (fun z wx => ∃ j : Nat, z = .int .i64 (j : Int) ∧ j ≤ L ∧ Hid (parseF s = contP [] (s.drop j)) ∧ w2 = wx)
  case first =>
    rcases HCASE.out with ⟨rfl, hz⟩ | ⟨hy, hz⟩
    · have HZ := Lib.hid hz
      clear hz
      go_wp2_with fail
      go_meet
      exact ⟨1, rfl, by omega, HZ, rfl⟩
    · have hne := ne_int (x := y) (c := 63) (by omega) hy
      have hne' : ((y.toNat : Int) == 63) = false := hne
      have HZ := Lib.hid hz
      clear hz hy hne
      go_wp2_with fail
      go_meet
      exact ⟨0, rfl, by omega, HZ, rfl⟩
  case rest =>
    obtain ⟨j0, rfl, hj0, HZ0, rfl⟩ := hcut
    clear hi0 hemp
    go_wp2_with fail
    go_loopw [5] (fun av wr => ∃ (j : Nat) (A : Option Addr) (n c : Nat) (P : List (List UInt8)), av = .int .i64 (j : Int) ∧ j ≤ L ∧ PSt w w2.heap.size g A n c P none 0 0 [] wr ∧ n ≤ j ∧ Hid (parseF s = contP P (s.drop j)) ∧ Hid (∀ p ∈ P, GoodP p ∧ p.length ≤ 1048576)) (fun av _ => L - (intOf av).toNat)
    case atStart => exact ⟨j0, none, 0, 0, [], rfl, hj0, hS2, by omega, HZ0, fun p hp => by cases hp⟩
    case round =>
      obtain ⟨j, A, n, c, P, rfl, hj, hS, hn, hZ, hGP⟩ := hrel
      have hc0 := hS.c0
      by_cases hjL : j < L
      · have hx : s[j]? = some (s[j]'(by rw [HL.out]; exact hjL)) := List.getElem?_eq_getElem _
        generalize s[j]'(by rw [HL.out]; exact hjL) = x at hx
        have hi : ∀ W, (Instr.index 9 (.string ⟨s.toArray⟩) (.int .i64 (j : Int))).run Tryd.prog W = .ok (.int .u8 (x.toNat : Int)) W := fun W => run_str_at (P := Tryd.prog) Tryd.underlying9 s j x hx (kl := .i64) W
        have hj' : (j : Int) < L := by omega
        have hjne : ((j : Int) == (L : Int)) = false := by simp; omega
        have HX := Lib.hid hx
        have HDR := Lib.hid (drop_at hx)
        clear hi1
        by_cases h47 : x = 47
        · subst h47
          have hi47 : ∀ W, (Instr.index 9 (.string ⟨s.toArray⟩) (.int .i64 (j : Int))).run Tryd.prog W = .ok (.int .u8 47) W := hi
          have HP : Hid (∀ W, Calls Tryd.prog 46 #[.string ⟨s.toArray⟩, .int .i64 ((j : Int) + 1)] W (RParted s (j + 1) W)) := fun W => rpart_any s (by rw [HL.out]; omega) (j + 1) (by rw [HL.out]; omega) W
          have hZ2 : parseF s = contP P (47 :: s.drop (j + 1)) := by rw [hZ.out, HDR.out]
          have HZ2 := Lib.hid hZ2
          clear hx hi hZ hZ2 hjL hjne
          go_wp2_with fail
          refine (HP.out _).mono ?_
          rintro e w3 ⟨hbl3, hcs⟩
          have hS3 := hS.go hbl3
          clear hbl3 hc0
          rcases hcs with ⟨hno, q, rfl⟩ | ⟨o, r, j1, hyes, hj1, hdr, rfl⟩
          · have HE := Lib.hid (HZ2.out.trans (cont_bad P (fun o r h => by rw [hno] at h; cases h)))
            clear hno
            go_wp2_with (first
              | (refine wpList_build_run rfl _ _ rfl #[] (by rfl) _ (build_tg0 _) ?_)
              | (refine wpList_store_all rfl _ _ _ rfl w.heap.size rfl _ tgZ tgZ rfl hS3.res size_tg0 rfl tg_one ?_; intro wz hgz hgrz hzz; clear hzz))
            refine bodyPost_ret (results_cell_tmp rfl _ _ w.heap.size _ _ _ _ rfl hgz Tryd.underlying51 rfl size_tg0 _ rfl) rfl ?_
            exact hS3.bad HE.out hgrz
          · have hln := rpart_len hyes
            have hjj : j + 1 ≤ j1 ∧ j1 ≤ L ∧ o.length ≤ 1048576 := by
              rw [← hdr, List.length_drop, List.length_drop, HL.out] at hln
              rw [HL.out] at hj1
              omega
            obtain ⟨hjj1, hjj2, hol⟩ := hjj
            by_cases hoe : o = []
            · subst hoe
              have HE := Lib.hid (HZ2.out.trans (cont_bad P (fun o r h => by rw [hyes] at h; exact (Prod.mk.inj (Option.some.inj h)).1.symm)))
              clear hyes hln hdr
              go_wp2_with (first
                | (refine wpList_build_run rfl _ _ rfl #[] (by rfl) _ (build_tg0 _) ?_)
                | (refine wpList_store_all rfl _ _ _ rfl w.heap.size rfl _ tgZ tgZ rfl hS3.res size_tg0 rfl tg_one ?_; intro wz hgz hgrz hzz; clear hzz))
              refine bodyPost_ret (results_cell_tmp rfl _ _ w.heap.size _ _ _ _ rfl hgz Tryd.underlying51 rfl size_tg0 _ rfl) rfl ?_
              exact hS3.bad HE.out hgrz
            · have hoi := ne_emp hoe
              have HG2 : Hid (∀ p ∈ P ++ [o], GoodP p ∧ p.length ≤ 1048576) := fun p hp => by
                rcases List.mem_append.1 hp with hp | hp
                · exact hGP.out p hp
                · obtain rfl : p = o := by simpa using hp
                  exact ⟨good_of hoe hyes, hol⟩
              have HZ3 : Hid (parseF s = contP (P ++ [o]) (s.drop j1)) := by
                show _ = _
                rw [HZ2.out, path_go P hoe hyes, hdr]
              have hc0 := hS3.c0
              have hle3 := hS3.le
              clear hyes hln hdr hoe hGP HZ2 hS
              go_wp2_with (first
                | (refine wpList_lit1 (v := .string ⟨o.toArray⟩) rfl rfl es rfl (fill_str _) ?_; intro w4 hw4; have hS4 := hS3.lit hw4; have hl4 := lit1_rd hw4; have hle4 := hS4.le; clear hw4 hc0)
                | (at_builtin; refine wpList_app rfl _ _ rfl es hS4.oA rfl hl4 rfl (by simp [Value.oneCell']) (by omega) (by unfold maxLen; omega) hle4 ?_; intro A5 c5 w5 ho5 hg5 hq5; obtain ⟨ht5, hS5⟩ := hS4.appA (P' := P ++ [o]) (by rw [List.map_append]; exact ho5) hg5; have hd0 := (cell_tg ht5).1; have hf0 := frozen_of (i := 0) ht5))
              go_roundw
              case rel => exact ⟨j1, A5, n + 1, c5, P ++ [o], rfl, hjj2, hS5, by omega, HZ3, HG2.out⟩
              case measure => simp [intOf]; omega
        · have hne47 := ne_int (x := x) (c := 47) (by omega) h47
          have hne47' : ((x.toNat : Int) == 47) = false := hne47
          by_cases h63 : x = 63
          · subst h63
            have hi63 : ∀ W, (Instr.index 9 (.string ⟨s.toArray⟩) (.int .i64 (j : Int))).run Tryd.prog W = .ok (.int .u8 63) W := hi
            have hZ2 : parseF s = contQ P [] (s.drop (j + 1)) := by rw [hZ.out, HDR.out, cont_query]
            have HZ2 := Lib.hid hZ2
            have hPm := hS.oA.rd.max
            clear hx hi hZ hZ2 h47 hne47 hne47' HX HDR
            go_wp2_with fail
            clear hi63 hc0 hjne
            go_loopw [5] (fun av wr => ∃ (j : Nat) (B : Option Addr) (m d : Nat) (Q : List Pm), av = .int .i64 (j : Int) ∧ j < L ∧ PSt w w2.heap.size g A n c P B m d Q wr ∧ m ≤ j ∧ Hid (parseF s = contQ P Q (s.drop (j + 1))) ∧ Hid (∀ q ∈ Q, q.1.length ≤ 1048576 ∧ q.2.length ≤ 1048576)) (fun av _ => L - (intOf av).toNat)
            case atStart => exact ⟨j, none, 0, 0, [], rfl, hjL, hS, by omega, HZ2, fun q hq => by cases hq⟩
            case round =>
              obtain ⟨i, B, m, d, Q, rfl, hi, hT, hm, hZ, hGQ⟩ := hrel
              have HP : Hid (∀ W, Calls Tryd.prog 46 #[.string ⟨s.toArray⟩, .int .i64 ((i : Int) + 1)] W (RParted s (i + 1) W)) := fun W => rpart_any s (by rw [HL.out]; omega) (i + 1) (by rw [HL.out]; omega) W
              have HBAD := Lib.hid (fun h => hZ.out.trans (query_bad P Q (l := s.drop (i + 1)) h))
              go_wp2_with fail
              refine (HP.out _).mono ?_
              rintro e w3 ⟨hbl3, hcs⟩
              have hT3 := hT.go hbl3
              clear hbl3 hT HP
              rcases hcs with ⟨hno, q, rfl⟩ | ⟨o, r, j1, hyes, hj1, hdr, rfl⟩
              · have HE := Lib.hid (HBAD.out (fun n l2 v r _ h1 _ _ => by rw [hno] at h1; cases h1))
                clear hno
                go_wp2_with (first
                  | (refine wpList_build_run rfl _ _ rfl #[] (by rfl) _ (build_tg0 _) ?_)
                  | (refine wpList_store_all rfl _ _ _ rfl w.heap.size rfl _ tgZ tgZ rfl hT3.res size_tg0 rfl tg_one ?_; intro wz hgz hgrz hzz; clear hzz))
                refine bodyPost_ret (results_cell_tmp rfl _ _ w.heap.size _ _ _ _ rfl hgz Tryd.underlying51 rfl size_tg0 _ rfl) rfl ?_
                exact hT3.bad HE.out hgrz
              have hln := rpart_len hyes
              have hjj : i + 1 ≤ j1 ∧ j1 ≤ L ∧ o.length ≤ 1048576 := by
                rw [← hdr, List.length_drop, List.length_drop, HL.out] at hln
                rw [HL.out] at hj1
                omega
              obtain ⟨hjj1, hjj2, hol⟩ := hjj
              by_cases hoe : o = []
              · subst hoe
                have HE := Lib.hid (HBAD.out (fun n l2 v r hn h1 _ _ => by rw [hyes] at h1; exact hn (Prod.mk.inj (Option.some.inj h1)).1.symm))
                clear hyes hln hdr
                go_wp2_with (first
                  | (refine wpList_build_run rfl _ _ rfl #[] (by rfl) _ (build_tg0 _) ?_)
                  | (refine wpList_store_all rfl _ _ _ rfl w.heap.size rfl _ tgZ tgZ rfl hT3.res size_tg0 rfl tg_one ?_; intro wz hgz hgrz hzz; clear hzz))
                refine bodyPost_ret (results_cell_tmp rfl _ _ w.heap.size _ _ _ _ rfl hgz Tryd.underlying51 rfl size_tg0 _ rfl) rfl ?_
                exact hT3.bad HE.out hgrz
              have hoi := ne_emp hoe
              by_cases hjl : (L : Int) ≤ j1
              · obtain rfl : j1 = L := by omega
                have hr : r = [] := by rw [← hdr]; exact List.drop_eq_nil_of_le (by rw [HL.out]; omega)
                subst hr
                have HE := Lib.hid (HBAD.out (fun n l2 v r hn h1 _ _ => by rw [hyes] at h1; have := (Prod.mk.inj (Option.some.inj h1)).2; cases this))
                clear hyes hln hdr hjl hoe
                go_wp2_with (first
                  | (refine wpList_build_run rfl _ _ rfl #[] (by rfl) _ (build_tg0 _) ?_)
                  | (refine wpList_store_all rfl _ _ _ rfl w.heap.size rfl _ tgZ tgZ rfl hT3.res size_tg0 rfl tg_one ?_; intro wz hgz hgrz hzz; clear hzz))
                refine bodyPost_ret (results_cell_tmp rfl _ _ w.heap.size _ _ _ _ rfl hgz Tryd.underlying51 rfl size_tg0 _ rfl) rfl ?_
                exact hT3.bad HE.out hgrz
              have hjl' : decide ((L : Int) ≤ j1) = false := decide_eq_false hjl
              have hj1L : j1 < L := by omega
              have hx : s[j1]? = some (s[j1]'(by rw [HL.out]; exact hj1L)) := List.getElem?_eq_getElem _
              generalize s[j1]'(by rw [HL.out]; exact hj1L) = x at hx
              have hi1 : ∀ W, (Instr.index 9 (.string ⟨s.toArray⟩) (.int .i64 (j1 : Int))).run Tryd.prog W = .ok (.int .u8 (x.toNat : Int)) W := fun W => run_str_at (P := Tryd.prog) Tryd.underlying9 s j1 x hx (kl := .i64) W
              have hrx := hdr.symm.trans (drop_at hx)
              subst hrx
              by_cases h61 : x = 61
              · subst h61
                have hi61 : ∀ W, (Instr.index 9 (.string ⟨s.toArray⟩) (.int .i64 (j1 : Int))).run Tryd.prog W = .ok (.int .u8 61) W := hi1
                have HP : Hid (∀ W, Calls Tryd.prog 46 #[.string ⟨s.toArray⟩, .int .i64 ((j1 : Int) + 1)] W (RParted s (j1 + 1) W)) := fun W => rpart_any s (by rw [HL.out]; omega) (j1 + 1) (by rw [HL.out]; omega) W
                have HY := Lib.hid hyes
                have HOE := Lib.hid hoe
                clear hyes hln hdr hjl hoe hi1 hx
                go_wp2_with fail
                refine (HP.out _).mono ?_
                rintro e w4 ⟨hbl4, hcs⟩
                have hT4 := hT3.go hbl4
                clear hbl4 hT3 HP hi61
                rcases hcs with ⟨hno, q, rfl⟩ | ⟨v, r2, j2, hyes, hj2, hdr, rfl⟩
                · have HE := Lib.hid (HBAD.out (fun n l2 v r hn h1 h2 _ => by
                    rw [HY.out] at h1
                    obtain ⟨_, e2⟩ := Prod.mk.inj (Option.some.inj h1)
                    obtain rfl := (List.cons.inj e2).2
                    rw [hno] at h2
                    cases h2))
                  clear hno
                  go_wp2_with (first
                    | (refine wpList_build_run rfl _ _ rfl #[] (by rfl) _ (build_tg0 _) ?_)
                    | (refine wpList_store_all rfl _ _ _ rfl w.heap.size rfl _ tgZ tgZ rfl hT4.res size_tg0 rfl tg_one ?_; intro wz hgz hgrz hzz; clear hzz))
                  refine bodyPost_ret (results_cell_tmp rfl _ _ w.heap.size _ _ _ _ rfl hgz Tryd.underlying51 rfl size_tg0 _ rfl) rfl ?_
                  exact hT4.bad HE.out hgrz
                have hln := rpart_len hyes
                have hjj : j1 + 1 ≤ j2 ∧ j2 ≤ L ∧ v.length ≤ 1048576 := by
                  rw [← hdr, List.length_drop, List.length_drop, HL.out] at hln
                  rw [HL.out] at hj2
                  omega
                obtain ⟨hkk1, hkk2, hvl⟩ := hjj
                have HG2 : Hid (∀ q ∈ Q ++ [(o, v)], q.1.length ≤ 1048576 ∧ q.2.length ≤ 1048576) := fun q hq => by
                  rcases List.mem_append.1 hq with hq | hq
                  · exact hGQ.out q hq
                  · obtain rfl : q = (o, v) := by simpa using hq
                    exact ⟨hol, hvl⟩
                have hgo := query_go P Q HOE.out HY.out hyes
                have HGO1 : Hid (r2 = [] → parseF s = finF P (Q ++ [(o, v)])) := fun e => hZ.out.trans (hgo.1 e)
                have HGO2 : Hid (∀ t, r2 = 38 :: t → parseF s = contQ P (Q ++ [(o, v)]) t) := fun t e => hZ.out.trans (hgo.2 t e)
                have HNO : Hid (∀ x t, r2 = x :: t → x ≠ 38 → parseF s = ([], [], 4)) := fun x t e hx => HBAD.out (fun n l2 v' r hn h1 h2 h3 => by
                  rw [HY.out] at h1
                  obtain ⟨_, e2⟩ := Prod.mk.inj (Option.some.inj h1)
                  obtain rfl := (List.cons.inj e2).2
                  rw [hyes] at h2
                  obtain ⟨_, e3⟩ := Prod.mk.inj (Option.some.inj h2)
                  subst e3
                  rcases h3 with h3 | ⟨t', h3⟩
                  · rw [e] at h3; cases h3
                  · rw [e] at h3; exact hx (List.cons.inj h3).1)
                have hc1 := hT4.c1
                have hle4 := hT4.le
                clear hyes hln hgo hZ hGQ HBAD HY HOE
                go_upto_region 24 with (first
                  | (refine wpList_litP (u := o) (v := v) rfl rfl rfl ?_; intro w5 hw5; have hT5 := hT4.lit hw5; have hl5 := litP_rd hw5; have hle5 := hT5.le; clear hw5 hc1)
                  | (at_builtin; refine wpList_app rfl _ _ rfl ep hT5.oB rfl hl5 rfl (prL_one _) (by omega) (by unfold maxLen; omega) hle5 ?_; intro B6 d6 w6 ho6 hg6 hq6; obtain ⟨ht6, hT6⟩ := hT5.appB (Q' := Q ++ [(o, v)]) (by rw [prL_app]; exact ho6) hg6 hq6; have hd0 := (cell_tg ht6).2; have hf0 := frozen_of (i := 1) ht6))
                obtain ⟨W7, hW7⟩ : ∃ W7, w6.setCell ⟨g, 1, none⟩ (.slice B6 (m + 1) d6) = W7 := ⟨_, rfl⟩
                rw [hW7] at hT6
                simp only [hW7]
                clear hW7 hd0 hf0 ht6 hq6 hg6 ho6 hT5 hl5 hT4
                by_cases hkl : j2 < L
                · have hjne : ((j2 : Int) == (L : Int)) = false := by simp; omega
                  have hx : s[j2]? = some (s[j2]'(by rw [HL.out]; exact hkl)) := List.getElem?_eq_getElem _
                  generalize s[j2]'(by rw [HL.out]; exact hkl) = x at hx
                  have hi2 : ∀ W, (Instr.index 9 (.string ⟨s.toArray⟩) (.int .i64 (j2 : Int))).run Tryd.prog W = .ok (.int .u8 (x.toNat : Int)) W := fun W => run_str_at (P := Tryd.prog) Tryd.underlying9 s j2 x hx (kl := .i64) W
                  have hrx := hdr.symm.trans (drop_at hx)
                  by_cases h38 : x = 38
                  · subst h38
                    have hi38 : ∀ W, (Instr.index 9 (.string ⟨s.toArray⟩) (.int .i64 (j2 : Int))).run Tryd.prog W = .ok (.int .u8 38) W := hi2
                    have HZ3 := Lib.hid (HGO2.out _ hrx)
                    clear hx hi2 hrx hdr
                    go_wp2_with fail
                    go_roundw
                    case rel => exact ⟨j2, B6, m + 1, d6, Q ++ [(o, v)], rfl, hkl, hT6, by omega, HZ3, HG2.out⟩
                    case measure => simp [intOf]; omega
                  · have hne38 := ne_int (x := x) (c := 38) (by omega) h38
                    have hne38' : ((x.toNat : Int) != 38) = true := by
                      have : ((x.toNat : Int) == 38) = false := hne38
                      simp [bne, this]
                    have HE := Lib.hid (HNO.out _ _ hrx h38)
                    clear hx hrx hdr h38 hne38
                    go_wp2_with (first
                      | (refine wpList_build_run rfl _ _ rfl #[] (by rfl) _ (build_tg0 _) ?_)
                      | (refine wpList_store_all rfl _ _ _ rfl w.heap.size rfl _ tgZ tgZ rfl hT6.res size_tg0 rfl tg_one ?_; intro wz hgz hgrz hzz; clear hzz))
                    refine bodyPost_ret (results_cell_tmp rfl _ _ w.heap.size _ _ _ _ rfl hgz Tryd.underlying51 rfl size_tg0 _ rfl) rfl ?_
                    exact hT6.bad HE.out hgrz
                · obtain rfl : j2 = L := by omega
                  have hr2 : r2 = [] := by rw [← hdr]; exact List.drop_eq_nil_of_le (by rw [HL.out]; omega)
                  have HZ3 := Lib.hid (HGO1.out hr2)
                  have HMA := Lib.hid (RMay_any hT6.oA.rd (show Ps W7 B6 (m + 1) d6 (Q ++ [(o, v)]) from hT6.oB.rd) (fun p hp => (hGP.out p hp).2) HG2.out (by omega))
                  obtain ⟨z, hz⟩ : ∃ z, mayF P (Q ++ [(o, v)]) = z := ⟨_, rfl⟩
                  rw [hz] at HMA
                  clear hkl hr2 hdr
                  cases z
                  · have hpz : parseF s = ([], [], 6) := by rw [HZ3.out]; unfold finF; rw [hz]; rfl
                    have HE := Lib.hid hpz
                    clear hz hpz
                    go_wp2_with (refine wpList_load_all (by rfl) _ _ rfl g rfl _ _ _ _ hT6.tg Tryd.underlying51 rfl size_tg0 ?_)
                    refine HMA.out.mono ?_
                    rintro e w8 ⟨rfl, hbl8⟩
                    have hT8 := hT6.go hbl8
                    clear hbl8 hT6
                    go_wp2_with (first
                      | (refine wpList_build_run rfl _ _ rfl #[] (by rfl) _ (build_tg0 _) ?_)
                      | (refine wpList_store_all rfl _ _ _ rfl w.heap.size rfl _ tgZ tgZ rfl hT8.res size_tg0 rfl tg_one ?_; intro wz hgz hgrz hzz; clear hzz))
                    refine bodyPost_ret (results_cell_tmp rfl _ _ w.heap.size _ _ _ _ rfl hgz Tryd.underlying51 rfl size_tg0 _ rfl) rfl ?_
                    exact hT8.bad HE.out hgrz
                  · have hpz : parseF s = (P, Q ++ [(o, v)], 0) := by rw [HZ3.out]; unfold finF; rw [hz]; rfl
                    have HE := Lib.hid hpz
                    clear hz hpz
                    go_wp2_with (refine wpList_load_all (by rfl) _ _ rfl g rfl _ _ _ _ hT6.tg Tryd.underlying51 rfl size_tg0 ?_)
                    refine HMA.out.mono ?_
                    rintro e w8 ⟨rfl, hbl8⟩
                    have hT8 := hT6.go hbl8
                    clear hbl8 hT6
                    go_wp2_with (first
                      | (refine wpList_load_all (by rfl) _ _ rfl g rfl _ _ _ _ hT8.tg Tryd.underlying51 rfl size_tg0 ?_)
                      | (refine wpList_store_all rfl _ _ _ rfl w.heap.size rfl _ tgZ (tgA A n c B6 (m + 1) d6) rfl hT8.res size_tg rfl tg_one ?_; intro wz hgz hgrz hzz; clear hzz))
                    refine bodyPost_ret (results_cell_tmp rfl _ _ w.heap.size _ _ _ _ rfl hgz Tryd.underlying51 rfl size_tg _ rfl) rfl ?_
                    exact hT8.out HE.out hgrz
              · have hne61 := ne_int (x := x) (c := 61) (by omega) h61
                have hne61' : ((x.toNat : Int) != 61) = true := by
                  have : ((x.toNat : Int) == 61) = false := hne61
                  simp [bne, this]
                have HE := Lib.hid (HBAD.out (fun n l2 v r hn h1 _ _ => by
                  rw [hyes] at h1
                  exact h61 (List.cons.inj (Prod.mk.inj (Option.some.inj h1)).2).1))
                clear hyes hln hdr hjl hoe hx h61 hne61
                go_wp2_with (first
                  | (refine wpList_build_run rfl _ _ rfl #[] (by rfl) _ (build_tg0 _) ?_)
                  | (refine wpList_store_all rfl _ _ _ rfl w.heap.size rfl _ tgZ tgZ rfl hT3.res size_tg0 rfl tg_one ?_; intro wz hgz hgrz hzz; clear hzz))
                refine bodyPost_ret (results_cell_tmp rfl _ _ w.heap.size _ _ _ _ rfl hgz Tryd.underlying51 rfl size_tg0 _ rfl) rfl ?_
                exact hT3.bad HE.out hgrz
          · have hne63 := ne_int (x := x) (c := 63) (by omega) h63
            have hne63' : ((x.toNat : Int) != 63) = true := by
              have : ((x.toNat : Int) == 63) = false := hne63
              simp [bne, this]
            have hpz : parseF s = ([], [], 4) := by rw [hZ.out, HDR.out, cont_other P _ h47 h63]
            have HE := Lib.hid hpz
            clear hx hZ h47 hne47 h63 hne63 hpz
            go_wp2_with (first
              | (refine wpList_build_run rfl _ _ rfl #[] (by rfl) _ (build_tg0 _) ?_)
              | (refine wpList_store_all rfl _ _ _ rfl w.heap.size rfl _ tgZ tgZ rfl hS.res size_tg0 rfl tg_one ?_; intro wz hgz hgrz hzz; clear hzz))
            refine bodyPost_ret (results_cell_tmp rfl _ _ w.heap.size _ _ _ _ rfl hgz Tryd.underlying51 rfl size_tg0 _ rfl) rfl ?_
            exact hS.bad HE.out hgrz
      · obtain rfl : j = L := by omega
        have hpz : parseF s = (P, [], 0) := by
          rw [hZ.out, ← HL.out, List.drop_length, cont_nil]
          exact fin_path (fun p hp => (hGP.out p hp).1)
        have HE := Lib.hid hpz
        clear hpz hZ hjL hi1
        go_wp2_with (first
          | (refine wpList_load_all (by rfl) _ _ rfl g rfl _ _ _ _ hS.tg Tryd.underlying51 rfl size_tg0 ?_)
          | (refine wpList_store_all rfl _ _ _ rfl w.heap.size rfl _ tgZ (tgA A n c none 0 0) rfl hS.res size_tg rfl tg_one ?_; intro wz hgz hgrz hzz; clear hzz))
        refine bodyPost_ret (results_cell_tmp rfl _ _ w.heap.size _ _ _ _ rfl hgz Tryd.underlying51 rfl size_tg _ rfl) rfl ?_
        exact hS.out HE.out hgrz

theorem RParse_any (s : List UInt8) (hs : s.length ≤ 1048570) (w : World) : Calls Tryd.prog 25 #[.string ⟨s.toArray⟩] w (Parsed s w) := by
  match s, hs with
  | [], _ => exact RParse_no [] (fun t h => by cases h) w
  | x :: t, hs =>
    by_cases hx : x = 47
    · subst hx
      match t, hs with
      | [], _ => exact RParse_root w
      | y :: t, hs => exact RParse_go y t (by simp at hs; omega) w
    · exact RParse_no (x :: t) (fun t' h => hx (List.cons.inj h).1) w

end Go.Proofs.YtaopohacelmglaaDoor.Tg
