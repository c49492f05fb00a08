/-
  Package folder: item.
-/
import Derived.Test.YtgdbdhfomlkpdaaFoI
import Derived.Deep.CutRange
import Derived.Deep.CutBlock
namespace Go.Proofs.Ytgdbdhfomlkpdaa
open Go.RowKit

theorem results_cell_tmp2 {P : Program} {fn : Func} {p q r : Tmp} {ty : TypeId} (h : fn.results = #[.cell p ty, .tmp q, .tmp r]) (tmps : Array Value) (w : World) (g : Nat) (t : TypeId) (cs : Array Value) (fr : Nat × Nat) (d : TypeDesc)
    (hp : tmps.getD p undef = .pointer (some ⟨g, 0, none⟩)) (hg : w.heap[g]? = some (.cells cs t fr))
    (hu : P.underlying ty = some d) (hd : (match d with | .struct _ | .array _ _ => true | _ => false) = true) (hi : (P.info? ty).map (·.size) = some cs.size) (v u : Value) (hv : tmps.getD q undef = v) (hu2 : tmps.getD r undef = u) :
    (results fn tmps).run P w = .ok (.tuple #[.agg cs, v, u]) w := by
  have hp' : tmps[p]?.getD undef = .pointer (some ⟨g, 0, none⟩) := by simpa using hp
  have hv' : tmps[q]?.getD undef = v := by simpa using hv
  have hu' : tmps[r]?.getD undef = u := by simpa using hu2
  simp [results, h, hp', hv', hu', asAddr, run_loadVar_row w g t ty cs fr d hg hu hd hi]

/-- What item answers. -/
def ItemPost (A : Option Addr) (l : List UInt8) (w : World) (e : Ending) (w' : World) : Prop :=
  Below w.heap.size w w' ∧ ((itP l = none ∧ ∃ y, ItOk y ∧ e = .returned (.tuple #[.agg (itA y), .slice none 0 0, .bool false])) ∨
    (∃ x r A' n' c', itP l = some (x, r) ∧ ItOk x ∧ e = .returned (.tuple #[.agg (itA x), .slice A' n' c', .bool true]) ∧ Rd w' 1 A' n' c' (r.map b8) ∧ blk A' = blk A))
theorem itP_none1 {k : UInt8} {r L : List UInt8} {m : Nat} {E : Int} (h : ttR r = (L, m, E)) (hE : E ≠ 0) : itP (k :: r) = none := by
  simp only [itP]
  rw [h]
  exact if_pos hE
theorem itP_none2 {k : UInt8} {r L : List UInt8} {m : Nat} (h : ttR r = (L, m, 0)) (hl : r.length - m < 32) : itP (k :: r) = none := by
  simp only [itP]
  rw [h]
  exact (if_neg (by simp)).trans (if_pos hl)
theorem itP_none3 {k : UInt8} {r L : List UInt8} {m V M : Nat} {E : Int} (h : ttR r = (L, m, 0)) (hl : ¬ r.length - m < 32) (h2 : tcR (r.drop (m + 32)) = (V, M, E)) (hE : E ≠ 0 ∨ 9223372036854775807 < V) : itP (k :: r) = none := by
  simp only [itP]
  rw [h]
  refine (if_neg (by simp)).trans ((if_neg hl).trans ?_)
  dsimp only
  rw [h2]
  exact if_pos hE
theorem itP_some {k : UInt8} {r L : List UInt8} {m V M : Nat} {E : Int} (h : ttR r = (L, m, 0)) (hl : ¬ r.length - m < 32) (h2 : tcR (r.drop (m + 32)) = (V, M, E)) (hE : ¬ (E ≠ 0 ∨ 9223372036854775807 < V)) :
    itP (k :: r) = some (⟨⟨L.toArray⟩, k.toNat, (r.drop m).take 32, V⟩, (r.drop (m + 32)).drop M) := by
  simp only [itP]
  rw [h]
  refine (if_neg (by simp)).trans ((if_neg hl).trans ?_)
  dsimp only
  rw [h2]
  exact if_neg hE

set_option maxRecDepth 20000 in
set_option maxHeartbeats 4000000 in
theorem item_nil (A : Option Addr) (c : Nat) (w : World) : Calls Try.prog 32 #[.slice A 0 c] w (ItemPost A [] w) := by
  go_enter Try.func32, Try.ntmps32
  go_wp2_with (first
    | (refine wpList_alloc_zero (o := ⟨some 2, _, _, _, _, _⟩) rfl _ rfl (itA itZ) zero_it ?_; intro w0 hg0 hb0 hz0; clear hz0)
    | (refine wpList_alloc_zero (o := ⟨some 5, _, _, _, _, _⟩) rfl _ rfl (itA itZ) zero_it ?_; intro w1 hg1 hb1 hz1; clear hz1)
    | (refine wpList_load_all (by rfl) _ _ rfl w0.heap.size rfl _ _ _ _ hg1 Try.underlying33 rfl (size_it itZ_ok) ?_)
    | (refine wpList_store_all rfl _ _ _ rfl w.heap.size rfl _ _ _ (by rfl) ((hb1.block _ (Array.getElem?_eq_some_iff.1 hg0).1).trans hg0) (size_it itZ_ok) rfl itA_one ?_; intro w2 hg2 hgr2 hz2; clear hz2))
  refine bodyPost_ret (results_cell_tmp2 rfl _ _ w.heap.size _ _ _ _ rfl hg2 Try.underlying33 rfl (size_it itZ_ok) _ _ rfl rfl) rfl ?_
  have hb01 := hb0.trans (hb1.mono hb0.size)
  exact ⟨hb01.grown hgr2 hb01.size (fun g hg => by injection hg with hg; omega), .inl ⟨rfl, itZ, itZ_ok, rfl⟩⟩

set_option maxRecDepth 20000 in
set_option maxHeartbeats 4000000 in
theorem item_any (A : Option Addr) (n c : Nat) (l : List UInt8) (w : World) (h : Rd w 1 A n c (l.map b8)) (hn : n ≤ 1073741824) : Calls Try.prog 32 #[.slice A n c] w (ItemPost A l w) := by
  have hln := h.lenb
  have hnc := h.le
  rcases l with _ | ⟨k0, r⟩
  · obtain rfl : 0 = n := hln
    exact item_nil A c w
  have hr1 : r.length + 1 = n := by simpa using hln
  have hn1 : (1 : Int) ≤ n := by omega
  have hn0 : ((n : Int) == 0) = false := by
    simp
    omega
  obtain ⟨x0, hx0, hidx0, hce0, hx255⟩ := h.byteAt eb 0 0 rfl (by omega)
  obtain rfl : k0 = x0 := by simpa using hx0.out
  have hk0 : (0 : Int) ≤ k0.toNat := by omega
  obtain ⟨L, m, E, hT⟩ : ∃ L m E, ttR r = (L, m, E) := ⟨_, _, _, rfl⟩
  have hTl := tt_le r
  rw [hT] at hTl
  dsimp only at hTl
  obtain ⟨hm, hL⟩ := hTl
  have HT := Lib.hid hT
  have HR1 := Lib.hid hr1
  have hsl1 := run_slice_l_rd (P := Try.prog) (A := A) (n := n) (c := c) eb (kl := .i64) 1 (L := 1) rfl (by omega)
  have htail := h.drop_ (k := 1) (by omega)
  rw [List.drop_succ_cons, List.drop_zero] at htail
  have hm1 : (m : Int) ≤ 1073741824 := by omega
  have H1 := Lib.hid hm
  have H2 := Lib.hid hL
  have HK := Lib.hid hx255
  obtain ⟨K0, hK0⟩ : ∃ K0, (k0.toNat : Int) = K0 := ⟨_, rfl⟩
  rw [hK0] at hce0 hx255 hk0
  have hkb : b8 k0 = .int .u8 K0 := by
    unfold b8
    rw [hK0]
  have HKB := Lib.hid hkb
  have HK0 := Lib.hid hK0
  clear hT hx0 hr1 hln hm hL hce0 hkb hK0
  go_enter Try.func32, Try.ntmps32
  go_wp2_with (first
    | (refine wpList_alloc_zero (o := ⟨some 2, _, _, _, _, _⟩) rfl _ rfl (itA itZ) zero_it ?_; intro w0 hg0 hb0 hz0; clear hz0)
    | (refine wpList_alloc_zero (o := ⟨some 5, _, _, _, _, _⟩) rfl _ rfl (itA itZ) zero_it ?_; intro w1 hg1 hb1 hz1; clear hz1; have hX1 : ItB w1 w0.heap.size itZ := ⟨itZ_ok, hg1⟩; have hbw1 := hb0.trans (hb1.mono hb0.size); have hce1 : w1.cell? (at_ A 0) = some (.int .u8 K0) := ((h.below hbw1).cell 0 _ (by rfl)).trans (by rw [HKB.out]); have p1 := hX1.kind; have f1 := hX1.free 1))
  have hlt0 : w.heap.size < w0.heap.size := (Array.getElem?_eq_some_iff.1 hg0).1
  have hk1 : K0 ≤ 9223372036854775807 := by omega
  have hX2 := hX1.setKind K0 (by omega) hk1
  have hb2 := hbw1.setCell (p := ⟨w0.heap.size, 1, none⟩) (Nat.le_of_lt hlt0) (.int .i64 K0)
  have hR2 := (heap_setCell_ne (w := w1) (g := w0.heap.size) (i := 1) (.int .i64 K0) (by omega : w0.heap.size ≠ w.heap.size)).trans ((hb1.block _ hlt0).trans hg0)
  clear p1 f1 hX1 hce1 hg1 hb1
  refine (TakeText_any _ (n - 1) (c - 1) r _ (htail.below hb2) (by omega)).mono ?_
  rintro e w3 ⟨A3, n3, c3, rfl, ho3, hbl3⟩
  rw [HT.out] at ho3 ⊢
  dsimp only at ho3 ⊢
  have hXw := hX2.below hbl3
  have hRw := (hbl3.block _ (Nat.lt_of_lt_of_le hlt0 (Nat.le_of_lt hX2.lt))).trans hR2
  have hbw := hb2.trans (hbl3.mono hb2.size)
  have hne3 : ∀ q, blk A3 = some q → q ≠ w0.heap.size := fun q hq e => by
    have h1 := (ho3.lt q hq).1
    have h2 := hX2.lt
    omega
  have hX2lt := hX2.lt
  clear hX2 hR2 hbl3 hb2 hidx0
  by_cases hE : E = 0
  · subst hE
    by_cases hsh : r.length - m < 32
    · have HN := Lib.hid (itP_none2 (k := k0) HT.out hsh)
      have hsl2 := run_slice_l_rd (P := Try.prog) (A := A) (n := n) (c := c) eb (kl := .i64) (1 + m) (L := 1 + (m : Int)) (by omega) (by have := H1.out; have := HR1.out; omega)
      have hsh' : ((n - (1 + m) : Nat) : Int) < 32 := by have := HR1.out; omega
      clear hsh hb0 hg0 hbw1
      have hRs := (ItB.mk itZ_ok hRw : ItB _ w.heap.size itZ)
      go_wp2_with (first
        | (refine wpList_load_all (by rfl) _ _ rfl w0.heap.size rfl _ _ _ _ hXw.obj Try.underlying33 rfl (size_it hXw.ok) ?_)
        | (refine wpList_store_all rfl _ _ _ rfl w.heap.size rfl _ _ _ (by rfl) hRw (size_it hXw.ok) (itA_same itZ_ok hXw.ok) itA_one ?_; intro wz hgz hgrz hzz; clear hzz))
      refine bodyPost_ret (results_cell_tmp2 rfl _ _ w.heap.size _ _ _ _ rfl hgz Try.underlying33 rfl (size_it hXw.ok) _ _ rfl rfl) rfl ?_
      exact ⟨hbw.grown hgrz hbw.size (fun g hg => by injection hg with hg; omega), .inl ⟨HN.out, _, hXw.ok, rfl⟩⟩
    · obtain ⟨n2, hn2⟩ : ∃ n2, n - (1 + m) = n2 := ⟨_, rfl⟩
      obtain ⟨c2, hc2⟩ : ∃ c2, c - (1 + m) = c2 := ⟨_, rfl⟩
      have hn32 : 32 ≤ n2 := by have := HR1.out; omega
      have hn2n : n2 ≤ 1073741824 := by omega
      have hd0 := h.drop_ (k := 1 + m) (by have := HR1.out; have := H1.out; omega)
      rw [hn2, hc2, show (k0 :: r).drop (1 + m) = r.drop m by rw [Nat.add_comm, List.drop_succ_cons]] at hd0
      have hsl2 := run_slice_l_rd (P := Try.prog) (A := A) (n := n) (c := c) eb (kl := .i64) (1 + m) (L := 1 + (m : Int)) (by omega) (by have := H1.out; have := HR1.out; omega)
      rw [hn2, hc2] at hsl2
      have hblk := blk_cutA A c (1 + m) 1
      rcases hA2 : cutA A c (1 + m) 1 with _ | ad
      · rw [hA2] at hd0
        have := hd0.nil rfl
        have := hd0.le
        omega
      rw [hA2] at hd0 hsl2 hblk
      have HBLK := Lib.hid hblk
      have hlA : ∀ q, blk (some ad) = some q → q < w.heap.size := fun q hq => by
        have h1 := World.block_lt_of_cell? w _ (h.cell 0 (b8 k0) (by rfl))
        rwa [at_block A 0 q (hblk.symm.trans hq)] at h1
      have hrt := hd0.take_ (k := 32) hn32
      have hdl : (r.drop m).length = n2 := hd0.lenb
      have hRT : ((r.drop m).take 32).length = 32 := by rw [List.length_take, hdl]; omega
      obtain ⟨RT, hRTe⟩ : ∃ RT, (r.drop m).take 32 = RT := ⟨_, rfl⟩
      rw [hRTe] at hrt hRT
      have hsl3 := run_slice_h_rd (P := Try.prog) (A := some ad) (n := n2) (c := c2) eb (kh := .i64) 32 (H := 32) rfl (by have := hd0.le; omega)
      have hsl4 := run_slice_l_rd (P := Try.prog) (A := some ad) (n := n2) (c := c2) eb (kl := .i64) 32 (L := 32) rfl hn32
      have hn32' : (32 : Int) ≤ n2 := by omega
      have harr := run_arr_id ad c2
      have HD0 := Lib.hid hd0
      have HRT := Lib.hid hRT
      have HRTE := Lib.hid hRTe
      have HSH := Lib.hid hsh
      have HDL := Lib.hid hdl
      clear hA2 hblk hn2 hc2 hRT hRTe hsh hb0 hg0 hbw1 hdl
      go_upto_region 11 with fail
      go_cut [] from 37 to 45 (fun wx => ItB wx w0.heap.size ⟨⟨L.toArray⟩, K0, RT, 0⟩ ∧ wx.heap[w.heap.size]? = some (.cells (itA itZ) 33 (0, 0)) ∧ Below w.heap.size w wx)
      case first =>
        have hstr := fun b : KeepBut w3 w0.heap.size => str_rd (ho3.rd.but hne3 b)
        have hld := fun b : KeepBut w3 w0.heap.size => load_id ((hrt.below hbw).but (fun q hq e => by have := hlA q hq; omega) b)
        have hLs : (⟨L.toArray⟩ : ByteArray).size ≤ maxLen := by
          have e1 : (⟨L.toArray⟩ : ByteArray).size = L.length := by simp [ByteArray.size]
          rw [e1]
          have := H2.out
          have := HR1.out
          unfold maxLen
          omega
        have hX7 := (hXw.setName ⟨L.toArray⟩ hLs)
        have p0 := hXw.name
        have f0 := hXw.free 0
        refine wp_region_plan (MPlan.reads [0, 1, 2, 3, 4, 5, 6] (.one 7 (.read 8 (.one 9 .fin)))) (fun x => ∃ b : KeepBut w3 w0.heap.size, x = b.at') (by kernel_rfl) (by kernel_rfl) (by kernel_rfl) (fun _ _ _ _ _ h => h) ⟨⟨w3.drew, fun _ _ _ => rfl⟩, rfl⟩ ?_
        iterate 4 (refine plan_read (o := ⟨_, _, _, _, _, _⟩) (by rfl) (by rfl) ?_; go_big_quiet_step (fail); refine wpQuiet_nil ?_)
        refine plan_arr (o := ⟨_, _, _, _, _, _⟩) (by rfl) rfl (by rfl) _ rfl _ (fun w' => harr w') ?_
        refine plan_load (o := ⟨_, _, _, _, _, _⟩) (by rfl) rfl (by rfl) _ rfl _ (fun w' hS => by obtain ⟨b, rfl⟩ := hS; exact hld b) ?_
        simp only [Act.put, List.setIfInBounds_toArray, List.set_cons_succ, List.set_cons_zero]
        refine plan_read (o := ⟨_, _, _, _, _, _⟩) (by rfl) (by rfl) ?_
        go_big_quiet_step (fail)
        refine wpQuiet_nil ?_
        refine plan_one (o := ⟨_, _, _, _, _, _⟩) (by rfl) (fun K hK => ?_)
        go_wp2_with fail
        refine hK _ _ ⟨⟨(w3.setCell ⟨w0.heap.size, 0, none⟩ (.string ⟨L.toArray⟩)).drew, fun k _ hk => heap_setCell_ne _ (Ne.symm hk)⟩, rfl⟩ ?_
        clear hK
        refine plan_read (o := ⟨_, _, _, _, _, _⟩) (by rfl) (by rfl) ?_
        go_big_quiet_step (fail)
        refine wpQuiet_nil ?_
        refine plan_one (o := ⟨_, _, _, _, _, _⟩) (by rfl) (fun K hK => ?_)
        have hb7 := (hbw.setCell (p := ⟨w0.heap.size, 0, none⟩) (Nat.le_of_lt hlt0) (.string ⟨L.toArray⟩)).drew
        have hR7 : (w3.setCell ⟨w0.heap.size, 0, none⟩ (.string ⟨L.toArray⟩)).drew.heap[w.heap.size]? = _ := (heap_setCell_ne (w := w3) (g := w0.heap.size) (i := 0) (.string ⟨L.toArray⟩) (by omega : w0.heap.size ≠ w.heap.size)).trans hRw
        have hX7' : ItB (w3.setCell ⟨w0.heap.size, 0, none⟩ (.string ⟨L.toArray⟩)).drew w0.heap.size _ := ⟨hX7.ok, hX7.obj⟩
        clear p0 f0 hstr hld
        go_wp2_with (refine wpList_store_itid rfl _ _ rfl rfl rfl HRT.out hX7' ?_; intro w9 hX9 hgr9 hz9)
        have hb9 : Below w.heap.size w w9 := hb7.grown hgr9 hb7.size (fun q hq => by injection hq with hq; omega)
        have hR9 := (hgr9.block _ (Nat.lt_of_lt_of_le hlt0 (Nat.le_of_lt hX7'.lt)) (fun e => by injection e with e; omega)).trans hR7
        refine hK _ _ ⟨⟨w9, fun k hk hne => (hgr9.block k (by have := hk; simpa [World.setCell] using hk) (fun e => by injection e with e; exact hne e)).trans (heap_setCell_ne _ (Ne.symm hne))⟩, rfl⟩ ?_
        clear hK
        refine plan_fin ?_
        go_wp2_with fail
        go_meet
        exact ⟨hX9, hR9, hb9⟩
      case rest =>
        obtain ⟨hXw, hRw, hbw⟩ := hcut
        obtain ⟨V, M, E2, hTC⟩ : ∃ V M E2, tcR (r.drop (m + 32)) = (V, M, E2) := ⟨_, _, _, rfl⟩
        have htc := tc_le (r.drop (m + 32))
        rw [hTC] at htc
        dsimp only at htc
        obtain ⟨hM, hV, hE20, hE24⟩ := htc
        have hd3 := (HD0.out.below hbw).drop_ (k := 32) hn32
        rw [List.drop_drop] at hd3
        have hMn : M ≤ n2 - 32 := by have := hd3.lenb; omega
        have HTC := Lib.hid hTC
        have hV0 : (0 : Int) ≤ V := by omega
        have hM1 : (M : Int) ≤ 1073741824 := by omega
        have hV1 : (V : Int) ≤ 18446744073709551615 := by omega
        have HCC := Lib.hid (TakeCount_any _ (n2 - 32) (c2 - 32) _ _ hd3 (by omega))
        rw [hTC] at HCC
        dsimp only at HCC
        have hsl5 := run_slice_l_rd (P := Try.prog) (A := cutA (some ad) c2 32 1) (n := n2 - 32) (c := c2 - 32) eb (kl := .i64) M (L := (M : Int)) rfl hMn
        clear hTC hM hV hd0 hrt hsl3 harr hE20 hE24
        by_cases hE2 : E2 = 0
        · subst hE2
          by_cases hmx : (9223372036854775807 : Int) < V
          · have HN := Lib.hid (itP_none3 (k := k0) HT.out HSH.out HTC.out (.inr (by omega)))
            have hmx' : decide ((9223372036854775807 : Int) < V) = true := by simpa using hmx
            clear hmx
            go_wp2_with fail
            refine HCC.out.mono ?_
            rintro e w6 ⟨rfl, rfl⟩
            have hRs := (ItB.mk itZ_ok hRw : ItB _ w.heap.size itZ)
            go_wp2_with (first
              | (refine wpList_load_all (by rfl) _ _ rfl w0.heap.size rfl _ _ _ _ hXw.obj Try.underlying33 rfl (size_it hXw.ok) ?_)
              | (refine wpList_store_all rfl _ _ _ rfl w.heap.size rfl _ _ _ (by rfl) hRw (size_it hXw.ok) (itA_same itZ_ok hXw.ok) itA_one ?_; intro wz hgz hgrz hzz; clear hzz))
            refine bodyPost_ret (results_cell_tmp2 rfl _ _ w.heap.size _ _ _ _ rfl hgz Try.underlying33 rfl (size_it hXw.ok) _ _ rfl rfl) rfl ?_
            exact ⟨hbw.grown hgrz hbw.size (fun g hg => by injection hg with hg; omega), .inl ⟨HN.out, _, hXw.ok, rfl⟩⟩
          · have hsome := itP_some (k := k0) HT.out HSH.out HTC.out (by omega)
            rw [HRTE.out, HK0.out] at hsome
            have HS := Lib.hid hsome
            have hmx' : (V : Int) ≤ 9223372036854775807 := by omega
            have hws : IntKind.i64.wrap (V : Int) = V := IntWalk.i64_in _ (by omega)
            have p3 := hXw.size
            have f3 := hXw.free 34
            have hX8 := hXw.setSize (V : Int) (by omega) hmx'
            have hb8 := hbw.setCell (p := ⟨w0.heap.size, 34, none⟩) (Nat.le_of_lt hlt0) (.int .i64 (V : Int))
            have hR8 := (heap_setCell_ne (w := wc) (g := w0.heap.size) (i := 34) (.int .i64 (V : Int)) (by omega : w0.heap.size ≠ w.heap.size)).trans hRw
            clear hmx hsome hV1
            go_wp2_with fail
            refine HCC.out.mono ?_
            rintro e w6 ⟨rfl, rfl⟩
            go_wp2_with fail
            clear p3 f3
            generalize wc.setCell ⟨w0.heap.size, 34, none⟩ (.int .i64 (V : Int)) = w8 at hX8 hb8 hR8 ⊢
            have hne8 : w0.heap.size ≠ w.heap.size := by omega
            have hld2 := fun b : KeepBut w8 w.heap.size => run_loadVar_row (P := Try.prog) b.at' w0.heap.size _ 33 _ _ _ ((b.same _ hX8.lt hne8).trans hX8.obj) Try.underlying33 rfl (size_it hX8.ok)
            refine wp_region_plan (MPlan.reads [0, 1, 2, 3] (.one 4 (MPlan.reads [5, 6] .fin))) (fun x => ∃ b : KeepBut w8 w.heap.size, x = b.at') (by kernel_rfl) (by kernel_rfl) (by kernel_rfl) (fun _ _ _ _ _ h => h) ⟨⟨w8.drew, fun _ _ _ => rfl⟩, rfl⟩ ?_
            refine plan_load (o := ⟨_, _, _, _, _, _⟩) (by rfl) rfl (by rfl) _ rfl _ (fun w' hS => by obtain ⟨b, rfl⟩ := hS; exact hld2 b) ?_
            simp only [Act.put, List.setIfInBounds_toArray, List.set_cons_succ, List.set_cons_zero]
            clear hld2
            iterate 3 (refine plan_read (o := ⟨_, _, _, _, _, _⟩) (by rfl) (by rfl) ?_; go_big_quiet_step (fail); refine wpQuiet_nil ?_)
            refine plan_one (o := ⟨_, _, _, _, _, _⟩) (by rfl) (fun K hK => ?_)
            go_wp2_with (refine wpList_store_all rfl _ _ _ rfl w.heap.size rfl _ _ _ (by rfl) hR8 (size_it hX8.ok) (itA_same itZ_ok hX8.ok) itA_one ?_; intro w9 hg9 hgr9 hz9; clear hz9)
            have hb9 : Below w.heap.size w w9 := hb8.drew.grown hgr9 hb8.size (fun q hq => by injection hq with hq; omega)
            refine hK _ _ ⟨⟨w9, fun k hk hne => hgr9.block k hk (fun e => by injection e with e; exact hne e)⟩, rfl⟩ ?_
            clear hK
            iterate 2 (refine plan_read (o := ⟨_, _, _, _, _, _⟩) (by rfl) (by rfl) ?_; go_big_quiet_step (fail); refine wpQuiet_nil ?_)
            refine plan_fin ?_
            go_wp2_with fail
            refine bodyPost_ret (results_cell_tmp2 rfl _ _ w.heap.size _ _ _ _ rfl hg9 Try.underlying33 rfl (size_it hX8.ok) _ _ rfl rfl) rfl ?_
            have hd9 := ((HD0.out.below hb9).drop_ (k := 32) hn32)
            rw [List.drop_drop] at hd9
            exact ⟨hb9, .inr ⟨_, _, _, _, _, HS.out, hX8.ok, rfl, hd9.drop_ hMn, (blk_cutA _ _ _ _).trans ((blk_cutA _ _ _ _).trans HBLK.out)⟩⟩
        · have HN := Lib.hid (itP_none3 (k := k0) HT.out HSH.out HTC.out (.inl hE2))
          have hE2' : (E2 != 0) = true := by simpa using hE2
          clear hE2
          go_wp2_with fail
          refine HCC.out.mono ?_
          rintro e w6 ⟨rfl, rfl⟩
          have hRs := (ItB.mk itZ_ok hRw : ItB _ w.heap.size itZ)
          go_wp2_with (first
            | (refine wpList_load_all (by rfl) _ _ rfl w0.heap.size rfl _ _ _ _ hXw.obj Try.underlying33 rfl (size_it hXw.ok) ?_)
            | (refine wpList_store_all rfl _ _ _ rfl w.heap.size rfl _ _ _ (by rfl) hRw (size_it hXw.ok) (itA_same itZ_ok hXw.ok) itA_one ?_; intro wz hgz hgrz hzz; clear hzz))
          refine bodyPost_ret (results_cell_tmp2 rfl _ _ w.heap.size _ _ _ _ rfl hgz Try.underlying33 rfl (size_it hXw.ok) _ _ rfl rfl) rfl ?_
          exact ⟨hbw.grown hgrz hbw.size (fun g hg => by injection hg with hg; omega), .inl ⟨HN.out, _, hXw.ok, rfl⟩⟩
  · have HN := Lib.hid (itP_none1 (k := k0) HT.out hE)
    have hE' : (E != 0) = true := by simpa using hE
    clear hE hb0 hg0 hbw1
    have hRs := (ItB.mk itZ_ok hRw : ItB _ w.heap.size itZ)
    go_wp2_with (first
      | (refine wpList_load_all (by rfl) _ _ rfl w0.heap.size rfl _ _ _ _ hXw.obj Try.underlying33 rfl (size_it hXw.ok) ?_)
      | (refine wpList_store_all rfl _ _ _ rfl w.heap.size rfl _ _ _ (by rfl) hRw (size_it hXw.ok) (itA_same itZ_ok hXw.ok) itA_one ?_; intro wz hgz hgrz hzz; clear hzz))
    refine bodyPost_ret (results_cell_tmp2 rfl _ _ w.heap.size _ _ _ _ rfl hgz Try.underlying33 rfl (size_it hXw.ok) _ _ rfl rfl) rfl ?_
    exact ⟨hbw.grown hgrz hbw.size (fun g hg => by injection hg with hg; omega), .inl ⟨HN.out, _, hXw.ok, rfl⟩⟩

end Go.Proofs.Ytgdbdhfomlkpdaa
