/-
  The document's answer to chunk: Chunks.
-/
import Derived.Test.YthijpbakhnakeaaDoorHexG
import Derived.Test.YthijpbakhnakeaaDoorMixD
import Derived.Great.BuildSlice
namespace Go.Proofs.YthijpbakhnakeaaDoor
open Go.RowKit

theorem run_hx0 (W : World) : (Instr.sliceAt 9 (.string ⟨#[48, 49, 50, 51, 52, 53, 54, 55, 56, 57, 97, 98, 99, 100, 101, 102]⟩) (some (.int .i64 0)) (some (.int .i64 1)) none).run Tryd.prog W = .ok (.string ⟨#[48]⟩) W := by kernel_rfl
theorem run_hx1 (W : World) : (Instr.sliceAt 9 (.string ⟨#[48, 49, 50, 51, 52, 53, 54, 55, 56, 57, 97, 98, 99, 100, 101, 102]⟩) (some (.int .i64 1)) (some (.int .i64 2)) none).run Tryd.prog W = .ok (.string ⟨#[49]⟩) W := by kernel_rfl
theorem run_hx2 (W : World) : (Instr.sliceAt 9 (.string ⟨#[48, 49, 50, 51, 52, 53, 54, 55, 56, 57, 97, 98, 99, 100, 101, 102]⟩) (some (.int .i64 2)) (some (.int .i64 3)) none).run Tryd.prog W = .ok (.string ⟨#[50]⟩) W := by kernel_rfl
theorem run_hx3 (W : World) : (Instr.sliceAt 9 (.string ⟨#[48, 49, 50, 51, 52, 53, 54, 55, 56, 57, 97, 98, 99, 100, 101, 102]⟩) (some (.int .i64 3)) (some (.int .i64 4)) none).run Tryd.prog W = .ok (.string ⟨#[51]⟩) W := by kernel_rfl
theorem run_hx4 (W : World) : (Instr.sliceAt 9 (.string ⟨#[48, 49, 50, 51, 52, 53, 54, 55, 56, 57, 97, 98, 99, 100, 101, 102]⟩) (some (.int .i64 4)) (some (.int .i64 5)) none).run Tryd.prog W = .ok (.string ⟨#[52]⟩) W := by kernel_rfl
theorem run_hx5 (W : World) : (Instr.sliceAt 9 (.string ⟨#[48, 49, 50, 51, 52, 53, 54, 55, 56, 57, 97, 98, 99, 100, 101, 102]⟩) (some (.int .i64 5)) (some (.int .i64 6)) none).run Tryd.prog W = .ok (.string ⟨#[53]⟩) W := by kernel_rfl
theorem run_hx6 (W : World) : (Instr.sliceAt 9 (.string ⟨#[48, 49, 50, 51, 52, 53, 54, 55, 56, 57, 97, 98, 99, 100, 101, 102]⟩) (some (.int .i64 6)) (some (.int .i64 7)) none).run Tryd.prog W = .ok (.string ⟨#[54]⟩) W := by kernel_rfl
theorem run_hx7 (W : World) : (Instr.sliceAt 9 (.string ⟨#[48, 49, 50, 51, 52, 53, 54, 55, 56, 57, 97, 98, 99, 100, 101, 102]⟩) (some (.int .i64 7)) (some (.int .i64 8)) none).run Tryd.prog W = .ok (.string ⟨#[55]⟩) W := by kernel_rfl
theorem run_hx8 (W : World) : (Instr.sliceAt 9 (.string ⟨#[48, 49, 50, 51, 52, 53, 54, 55, 56, 57, 97, 98, 99, 100, 101, 102]⟩) (some (.int .i64 8)) (some (.int .i64 9)) none).run Tryd.prog W = .ok (.string ⟨#[56]⟩) W := by kernel_rfl
theorem run_hx9 (W : World) : (Instr.sliceAt 9 (.string ⟨#[48, 49, 50, 51, 52, 53, 54, 55, 56, 57, 97, 98, 99, 100, 101, 102]⟩) (some (.int .i64 9)) (some (.int .i64 10)) none).run Tryd.prog W = .ok (.string ⟨#[57]⟩) W := by kernel_rfl
theorem run_hx10 (W : World) : (Instr.sliceAt 9 (.string ⟨#[48, 49, 50, 51, 52, 53, 54, 55, 56, 57, 97, 98, 99, 100, 101, 102]⟩) (some (.int .i64 10)) (some (.int .i64 11)) none).run Tryd.prog W = .ok (.string ⟨#[97]⟩) W := by kernel_rfl
theorem run_hx11 (W : World) : (Instr.sliceAt 9 (.string ⟨#[48, 49, 50, 51, 52, 53, 54, 55, 56, 57, 97, 98, 99, 100, 101, 102]⟩) (some (.int .i64 11)) (some (.int .i64 12)) none).run Tryd.prog W = .ok (.string ⟨#[98]⟩) W := by kernel_rfl
theorem run_hx12 (W : World) : (Instr.sliceAt 9 (.string ⟨#[48, 49, 50, 51, 52, 53, 54, 55, 56, 57, 97, 98, 99, 100, 101, 102]⟩) (some (.int .i64 12)) (some (.int .i64 13)) none).run Tryd.prog W = .ok (.string ⟨#[99]⟩) W := by kernel_rfl
theorem run_hx13 (W : World) : (Instr.sliceAt 9 (.string ⟨#[48, 49, 50, 51, 52, 53, 54, 55, 56, 57, 97, 98, 99, 100, 101, 102]⟩) (some (.int .i64 13)) (some (.int .i64 14)) none).run Tryd.prog W = .ok (.string ⟨#[100]⟩) W := by kernel_rfl
theorem run_hx14 (W : World) : (Instr.sliceAt 9 (.string ⟨#[48, 49, 50, 51, 52, 53, 54, 55, 56, 57, 97, 98, 99, 100, 101, 102]⟩) (some (.int .i64 14)) (some (.int .i64 15)) none).run Tryd.prog W = .ok (.string ⟨#[101]⟩) W := by kernel_rfl
theorem run_hx15 (W : World) : (Instr.sliceAt 9 (.string ⟨#[48, 49, 50, 51, 52, 53, 54, 55, 56, 57, 97, 98, 99, 100, 101, 102]⟩) (some (.int .i64 15)) (some (.int .i64 16)) none).run Tryd.prog W = .ok (.string ⟨#[102]⟩) W := by kernel_rfl
theorem run_hx (d : Nat) (hd : d < 16) (W : World) : (Instr.sliceAt 9 (.string ⟨#[48, 49, 50, 51, 52, 53, 54, 55, 56, 57, 97, 98, 99, 100, 101, 102]⟩) (some (.int .i64 (d : Int))) (some (.int .i64 ((d : Int) + 1))) none).run Tryd.prog W = .ok (.string ⟨[hexD d].toArray⟩) W := by
  have h : d = 0 ∨ d = 1 ∨ d = 2 ∨ d = 3 ∨ d = 4 ∨ d = 5 ∨ d = 6 ∨ d = 7 ∨ d = 8 ∨ d = 9 ∨ d = 10 ∨ d = 11 ∨ d = 12 ∨ d = 13 ∨ d = 14 ∨ d = 15 := by omega
  rcases h with rfl | rfl | rfl | rfl | rfl | rfl | rfl | rfl | rfl | rfl | rfl | rfl | rfl | rfl | rfl | rfl
  · exact run_hx0 W
  · exact run_hx1 W
  · exact run_hx2 W
  · exact run_hx3 W
  · exact run_hx4 W
  · exact run_hx5 W
  · exact run_hx6 W
  · exact run_hx7 W
  · exact run_hx8 W
  · exact run_hx9 W
  · exact run_hx10 W
  · exact run_hx11 W
  · exact run_hx12 W
  · exact run_hx13 W
  · exact run_hx14 W
  · exact run_hx15 W
theorem cat1x (x : UInt8) (T : List UInt8) : (⟨[x].toArray⟩ : ByteArray) ++ ⟨T.toArray⟩ = ⟨(x :: T).toArray⟩ := by
  apply ByteArray.ext
  apply Array.ext'
  simp

/-- A row, and short rows that were made beside it. -/
structure RS (w W : World) (A : Option Addr) (n c : Nat) (xs : List UInt8) (gs : List Nat) : Prop where
  below : Below w.heap.size w W
  own : Own W w.heap.size 5 1 A n c (xs.map b8)
  lits : ∀ g ∈ gs, Own W w.heap.size 5 1 (some ⟨g, 0, none⟩) 2 2 ([(13 : UInt8), 10].map b8) ∧ blk A ≠ some g
theorem RS.lit {w W : World} {A : Option Addr} {n c : Nat} {xs : List UInt8} {gs : List Nat} (h : RS w W A n c xs gs) : RS w (W.alloc (.cells #[.int .u8 13, .int .u8 10] 5)) A n c xs (W.heap.size :: gs) := by
  refine ⟨h.below.alloc h.below.size _, h.own.alloc _, fun g hg => ?_⟩
  rcases List.mem_cons.1 hg with rfl | hg
  · refine ⟨Own.lit W w.heap.size [.int .u8 13, .int .u8 10] 5 2 rfl (by decide) h.below.size, fun e => ?_⟩
    have := (h.own.lt _ e).2
    omega
  · exact ⟨(h.lits g hg).1.alloc _, (h.lits g hg).2⟩
theorem RS.app {w W W' : World} {A A' : Option Addr} {n c n' c' : Nat} {xs ys : List UInt8} {gs : List Nat} (h : RS w W A n c xs gs) (ho : Own W' w.heap.size 5 1 A' n' c' (ys.map b8)) (hg : W.grownBy W' (blk A)) (hq : blk A' = blk A ∨ blk A' = some W.heap.size) : RS w W' A' n' c' ys gs := by
  refine ⟨h.below.grown hg h.below.size (fun g hg => (h.own.lt g hg).1), ho, fun g hgs => ⟨(h.lits g hgs).1.grown hg (fun g' hg' => ?_), ?_⟩⟩
  · obtain rfl : g = g' := by simpa [blk] using hg'
    exact (h.lits g hgs).2
  · rcases hq with e | e
    · rw [e]
      exact (h.lits g hgs).2
    · rw [e]
      intro e2
      have h1 := Option.some.inj e2
      have h2 := ((h.lits g hgs).1.lt g rfl).2
      omega

theorem fill_two : Instr.fill (fun i => some (i * 1, 1)) ((Array.range (2 * 1)).map ((Value.int .u8 0).cells[· % (Value.int .u8 0).cells.size]!)) [(0, .int .u8 13), (1, .int .u8 10)] = some #[.int .u8 13, .int .u8 10] := by kernel_rfl
section
variable {ops : Array Oper} {rest : List Oper} {o : Oper} {a : Act} {Q : Exit → Act → World → Prop} {w w0 W : World} {A : Option Addr} {n c : Nat} {xs : List UInt8} {gs : List Nat}
theorem wpList_lit2 (hgd : o.guard = none) (ho : o.op = .buildSlice 22 2 #[(0, .const (.int .u8 13)), (1, .const (.int .u8 10))]) (h : RS w0 W A n c xs gs)
    (k : RS w0 (W.alloc (.cells #[.int .u8 13, .int .u8 10] 5)) A n c xs (W.heap.size :: gs) → wpList Tryd.prog ops Q rest (a.put o.dst (.slice (some ⟨W.heap.size, 0, none⟩) 2 2)) (W.alloc (.cells #[.int .u8 13, .int .u8 10] 5))) : wpList Tryd.prog ops Q (o :: rest) a W := by
  obtain ⟨ie, hie, hz, hs, _⟩ := eb.info (P := Tryd.prog)
  refine wpList_buildSlice hgd 22 5 2 _ ho #[.int .u8 13, .int .u8 10] ie (.int .u8 0) Tryd.underlying22 hie hz (by rw [hs]; decide) (by rw [hs]; decide) ?_ (k h.lit)
  rw [hs]
  have e : ((#[(0, Operand.const (.int .u8 13)), (1, Operand.const (.int .u8 10))] : Array (Nat × Operand)).map fun (i, x) => (i, a.eval x)).toList = [(0, Value.int .u8 13), (1, Value.int .u8 10)] := by
    rw [List.map_toArray]
    rfl
  rw [e]
  exact fill_two
end

def pl234 : MPlan := .two 8 9 (.one 9 (.one 10 (.read 11 .fin))) (.one 8 (.one 10 (.read 11 .fin)))
def pl239 : MPlan := .one 4 (.one 8 (.one 10 (.read 11 .fin)))
def pl23 : MPlan := .two 4 9 pl234 pl239
/-- In which orders two pairs of bytes and four appends may come up. -/
def planTwo : MPlan := .three 2 3 9 (.two 3 9 pl23 (.one 3 pl239)) (.two 2 9 pl23 (.one 2 pl239)) (.two 2 3 (.one 3 pl239) (.one 2 pl239))

set_option maxRecDepth 20000 in
set_option maxHeartbeats 8000000 in
theorem RChunks_nat {w : World} (A : Option Addr) (n c : Nat) (l : List UInt8) (h : Rd w 1 A n c (l.map b8)) (hn : n ≤ 65536) (sz : Int) (K : Nat) (hK : (K : Int) = max sz 1) :
    Calls Tryd.prog 9 #[.slice A n c, .int .i64 sz] w fun e w' => ∃ A' n' c', e = .returned (.slice A' n' c') ∧ Own w' w.heap.size 5 1 A' n' c' ((chunksL K n l).map b8) ∧ Below w.heap.size w w' := by
  have HH := Lib.hid h
  have hln := Lib.hid h.lenb
  have hK1 : 1 ≤ K := by omega
  have hcase : sz = (K : Int) ∨ (sz < 1 ∧ (1 : Int) = (K : Int)) := by omega
  clear h hK
  have hfin : ∀ (wr : World) (L : Option Addr) (m d : Nat) (o : List UInt8), Own wr w.heap.size 5 1 L m d ((o ++ [48, 13, 10, 13, 10]).map b8) → chunksL K n l = o ++ [48, 13, 10, 13, 10] → Below w.heap.size w wr →
      ∃ A' n' c', Ending.returned (.slice L m d) = .returned (.slice A' n' c') ∧ Own wr w.heap.size 5 1 A' n' c' ((chunksL K n l).map b8) ∧ Below w.heap.size w wr := fun wr L m d o h1 h2 h3 => ⟨L, m, d, rfl, by rw [h2]; exact h1, h3⟩
  have Fin := Lib.hid hfin
  clear hfin
  have HCASE := Lib.hid hcase
  clear hcase
  go_enter Tryd.func9, Tryd.ntmps9
  go_upto_region 1 with fail
  go_cut [1] from 9 to 10 (fun z wx => z = .int .i64 K ∧ w = wx)
  case first =>
    rcases HCASE.out with rfl | ⟨hs, hK2⟩
    · go_wp2_with fail
      go_meet
      exact ⟨rfl, rfl⟩
    · have HK2 := Lib.hid hK2
      clear hK2
      go_wp2_with fail
      go_meet
      exact ⟨by rw [HK2.out], rfl⟩
  case rest =>
    obtain ⟨rfl, rfl⟩ := hcut
    go_wp2_with fail
    go_loopw [0, 5] (fun s o wr => ∃ (k : Nat) (A1 : Option Addr) (c1 : Nat) (L : Option Addr) (m d : Nat) (ol : List UInt8), k ≤ n ∧ s = .slice A1 (n - k) c1 ∧ o = .slice L m d ∧ Hid (Rd w 1 A1 (n - k) c1 ((l.drop k).map b8)) ∧ n - k ≤ c1 ∧ c1 ≤ maxLen ∧
      Own wr w.heap.size 5 1 L m d (ol.map b8) ∧ Hid (chunkAt K n l k ol) ∧ m ≤ 13 * k ∧ Below w.heap.size w wr) (fun s _ _ => match s with | .slice _ q _ => q | _ => 0)
    case atStart => exact ⟨0, A, c, none, 0, 0, [], by omega, rfl, rfl, by simpa [Hid] using HH.out, HH.out.le, HH.out.max, Own.nil_ _ _ _ _, chunkAt_start K n l, by omega, Below.refl _ _⟩
    case round =>
      obtain ⟨k, A1, c1, L, m, d, ol, hk, rfl, rfl, hR, hc1, hc2, ho, hC, hm, hb⟩ := hrel
      obtain ⟨q, hq⟩ : ∃ q, n - k = q := ⟨_, rfl⟩
      rw [hq] at hR hc1 ⊢
      have hqn : q ≤ n := by omega
      have HQ := Lib.hid hq
      have hsz := hb.size
      unfold maxLen at hc2
      clear hq
      by_cases hgo : 1 ≤ q
      · have hgb : decide (0 < q) = true := decide_eq_true (by omega)
        have hgo' : (0 : Int) < q := by omega
        obtain ⟨M, hM⟩ : ∃ M, min K q = M := ⟨_, rfl⟩
        have hM1 : 1 ≤ M := by omega
        have hMq : M ≤ q := by omega
        have hMn : M < 4294967296 := by omega
        have hmin : (K : Int) ≤ q ∧ M = K ∨ (q : Int) < K ∧ M = q := by omega
        have HM := Lib.hid hM
        have h8 := hex0_le8 M hMn
        obtain ⟨X, hX⟩ : ∃ X, (hex0 M).length = X := ⟨_, rfl⟩
        rw [hX] at h8
        have HX := Lib.hid hX
        obtain ⟨Q2, hQ2⟩ : ∃ Q2, q - M = Q2 := ⟨_, rfl⟩
        have hs1 := run_slice_h_rd (P := Tryd.prog) (A := A1) (n := q) (c := c1) eb (kh := .i64) M (H := (M : Int)) (by omega) (by omega)
        have hs2 := run_slice_l_rd (P := Tryd.prog) (A := A1) (n := q) (c := c1) eb (kl := .i64) M (L := (M : Int)) (by omega) (by omega)
        rw [hQ2] at hs2
        have HQ2 := Lib.hid hQ2
        have HS1 := Lib.hid hs1
        have HS2 := Lib.hid hs2
        clear hM hX hgo hQ2 hs1 hs2
        have HMIN := Lib.hid hmin
        clear hmin
        go_upto_region 4 with fail
        go_cut [6] from 14 to 17 (fun z wx => z = .int .i64 M ∧ wr = wx)
        case first =>
          rcases HMIN.out with ⟨hm1, rfl⟩ | ⟨hm1, rfl⟩
          · go_wp2_with fail
            go_meet
            exact ⟨rfl, rfl⟩
          · go_wp2_with fail
            go_meet
            exact ⟨rfl, rfl⟩
        case rest =>
          obtain ⟨rfl, rfl⟩ := hcut
          go_wp2_with fail
          go_loop [7, 8] (fun s v => ∃ (V : Nat) (ws : List UInt8), s = .string ⟨ws.toArray⟩ ∧ v = .int .i64 V ∧ V ≤ 65536 ∧ V + ws.length ≤ 65536 ∧ Hid (hexAt M V ws)) (fun _ v => (intOf v).toNat)
          case atStart => exact ⟨M, [], rfl, rfl, by omega, by simp; omega, hexAt_start M⟩
          case round =>
            obtain ⟨V, ws, rfl, rfl, hV, hVw, hH⟩ := hrel
            by_cases hV0 : 0 < V
            · have hV0' : (0 : Int) < V := by omega
              obtain ⟨dd, hd⟩ : ∃ dd, V % 16 = dd := ⟨_, rfl⟩
              obtain ⟨V2, hV2⟩ : ∃ V2, V / 16 = V2 := ⟨_, rfl⟩
              have hmod : (V : Int) % 16 = (dd : Int) := by omega
              have hdiv : (V : Int) / 16 = (V2 : Int) := by omega
              have hd16 : (dd : Int) ≤ 15 := by omega
              have hrun := run_hx dd (by omega)
              have hst := hexAt_step hH.out hV0
              rw [hV2, hd] at hst
              have HST := Lib.hid hst
              have hTl : ¬ (9223372036854775807 < 1 + ws.length) := by omega
              have hlt : V2 < V := by omega
              have hle : V2 + (hexD dd :: ws).length ≤ 65536 := by rw [List.length_cons]; omega
              have HLE := Lib.hid hle
              clear hst hd hV2 hV0 hle
              go_wp2_with fail
              go_round
              case rel => exact ⟨V2, hexD dd :: ws, by rw [cat1x], rfl, by omega, HLE.out, HST.out⟩
              case measure => simp [intOf]; omega
            · obtain rfl : V = 0 := by omega
              have hws := hexAt_end hH.out
              have hsz2 : (⟨ws.toArray⟩ : ByteArray).size = X := by
                have := HX.out
                rw [hws] at this
                exact this
              have HWS := Lib.hid hws
              have HSZ := Lib.hid hsz2
              clear hws hsz2 hV0 hH hVw
              go_upto_region 10 with fail
              have hs1 := HS1.out
              go_cut [5] from 31 to 41 (fun o wx => ∃ A9 n9 c9, o = .slice A9 n9 c9 ∧ n9 ≤ m + X + M + 4 ∧ Own wx w.heap.size 5 1 A9 n9 c9 ((ol ++ ws ++ [13, 10] ++ (l.drop k).take M ++ [13, 10]).map b8) ∧ Below w.heap.size w wx)
              case first =>
                have hr : RS w wr.drew L m d ol [] := ⟨hb.drew, ho.drew, fun g hg => by cases hg⟩
                clear hb ho
                refine wp_region_plan (MPlan.reads [0, 1, 5, 6, 7] planTwo) (fun _ => True) (by kernel_rfl) (by kernel_rfl) (by kernel_rfl) (fun _ _ _ _ _ h => h) trivial ?_
                iterate 5 (refine plan_read (o := ⟨_, _, _, _, _, _⟩) (by rfl) (by rfl) ?_; go_big_quiet_step (fail); refine wpQuiet_nil ?_)
                unfold planTwo pl23 pl239 pl234
                iterate 6
                  all_goals (first
                    | (refine plan_three (oi := ⟨_, _, _, _, _, _⟩) (oj := ⟨_, _, _, _, _, _⟩) (ok := ⟨_, _, _, _, _, _⟩) (by rfl) (by rfl) (by rfl) (fun K hK => ?_) (fun K hK => ?_) (fun K hK => ?_))
                    | (refine plan_two (oi := ⟨_, _, _, _, _, _⟩) (oj := ⟨_, _, _, _, _, _⟩) (by rfl) (by rfl) (fun K hK => ?_) (fun K hK => ?_))
                    | (refine plan_one (o := ⟨_, _, _, _, _, _⟩) (by rfl) (fun K hK => ?_)))
                  all_goals
                    go_wp2_with (first
                      | (refine wpList_lit2 rfl rfl hr ?_; clear hr; intro hr)
                      | (at_builtin; refine wpList_app_str rfl _ _ rfl eb Tryd.underlying9 hr.own rfl ⟨ws.toArray⟩ rfl (by rw [HSZ.out]; omega) hr.below.size ?_; intro A9 c9 W9 ho9 hg9 hq9; rw [HSZ.out] at ho9 ⊢; replace hr := hr.app (ys := ol ++ ws) (by rw [List.map_append]; exact ho9) hg9 hq9; clear ho9 hg9 hq9)
                      | (at_builtin; refine wpList_app rfl _ _ rfl eb hr.own rfl ((hR.out.below hr.below).take_ hMq) rfl (b8_one _) (by omega) (by unfold maxLen; omega) hr.below.size ?_; intro A9 c9 W9 ho9 hg9 hq9; rw [← List.map_append] at ho9; replace hr := hr.app ho9 hg9 hq9; clear ho9 hg9 hq9)
                      | (at_builtin; refine wpList_app rfl _ _ rfl eb hr.own rfl (hr.lits _ (by simp)).1.rd rfl (b8_one _) (by omega) (by unfold maxLen; omega) hr.below.size ?_; intro A9 c9 W9 ho9 hg9 hq9; rw [← List.map_append] at ho9; replace hr := hr.app ho9 hg9 hq9; clear ho9 hg9 hq9))
                    refine hK _ _ trivial ?_
                    clear hK
                all_goals
                  refine plan_read (o := ⟨_, _, _, _, _, _⟩) (by rfl) (by rfl) ?_
                  go_big_quiet_step (fail)
                  refine wpQuiet_nil ?_
                  refine plan_fin ?_
                  go_wp2_with fail
                  go_meet
                  exact ⟨_, _, _, rfl, by omega, hr.own, hr.below⟩
              case rest =>
                obtain ⟨A9, n9, c9, rfl, hn9, ho9, hb9⟩ := hcut
                rw [← HWS.out] at ho9
                have hs2 := HS2.out
                go_wp2_with fail
                go_roundw
                case rel =>
                  have hst := chunkAt_step hC.out hK1 hln.out (m := M) (by have := HQ.out; omega) (by rw [HQ.out]; exact HM.out)
                  refine ⟨k + M, cutA A1 c1 M 1, c1 - M, A9, n9, c9, _, by have := HQ.out; omega, ?_, rfl, ?_, ?_, by unfold maxLen; omega, ho9, hst, ?_, hb9⟩
                  · have e1 : n - (k + M) = Q2 := by have := HQ.out; have := HQ2.out; omega
                    rw [e1]
                  · have e1 : n - (k + M) = n - k - M := by omega
                    show Rd _ _ _ _ _ _
                    rw [e1, HQ.out]
                    have := hR.out.drop_ (k := M) (by omega)
                    rw [List.drop_drop] at this
                    exact this
                  · have := HQ.out
                    omega
                  · have := HQ.out
                    omega
                case measure =>
                  have := HQ2.out
                  simp
                  omega
      · obtain rfl : q = 0 := by omega
        have hend := chunkAt_end hC.out hln.out (by have := HQ.out; omega)
        have HE := Lib.hid hend
        clear hend hgo
        go_wp2_with (at_builtin; refine wpList_app_str rfl _ _ rfl eb Tryd.underlying9 ho rfl ⟨#[48, 13, 10, 13, 10]⟩ rfl (by simp [ByteArray.size]; omega) hb.size ?_; intro A3 c3 w3 ho3 hg3 hq3; have hb3 := below_apps hb (Nat.le_refl _) ho hg3)
        go_ret
        exact Fin.out _ _ _ _ _ (by rw [List.map_append]; exact ho3) HE.out hb3

end Go.Proofs.YthijpbakhnakeaaDoor
